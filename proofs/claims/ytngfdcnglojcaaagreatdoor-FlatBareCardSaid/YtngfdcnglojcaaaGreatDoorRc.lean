/-
A checker of the conditions of runs: terms, what is pX, and steps. What they promise is so. No program is named here.
-/
import Derived.Test.YtngfdcnglojcaaaGreatDoorRa
section
set_option linter.all false
namespace Go.Proofs.YtngfdcnglojcaaaGreatDoor.Ev.Rf
noncomputable section
open Go
def ok (a:An):Prop:=∃ s s',a s = .ok s'
theorem jB {c:Bool} {tag:Nat} {st:Sx} {g:List LT} {r:An} (h:ok (jL c tag st g r)):c=true∧ok r:=by
 cases c with
 | true=>exact ⟨rfl,h⟩
 | false=>obtain ⟨s,s',h⟩:=h; cases h
theorem jC {tag:Nat} {st:Sx} (h:ok (no1 tag st)):False:=by obtain ⟨s,s',h⟩:=h; cases h
theorem qW {a b:An} (h:ok (sZ a b)):ok a∧ok b:=by
 obtain ⟨s,s',h⟩:=h
 unfold sZ at h
 split at h
 ·rename_i s1 e; exact ⟨⟨_,_,e⟩,⟨_,_,h⟩⟩
 ·cases h
theorem dD {st:Sx} {f:qGi→Nat} {k:Nat→An} (h:ok (pop st f k)):∃ c,ok (k c):=by
 obtain ⟨s,s',h⟩:=h
 unfold pop at h
 split at h
 ·exact ⟨_,_,_,h⟩
 ·split at h
  ·cases h
  ·exact ⟨_,_,_,h⟩
theorem jSl {k:Nat→An} {s:Tp} {st:Sx}:∀ {l:List An} {i:Nat} {s':Tp},qAg k s st l i = .ok s'→∃ j a,l[j]?=some a∧ok a∧ok (k (i+j))
 | [],i,s',h=>by simp only [qAg] at h; cases h
 | a::r,i,s',h=>by
  simp only [qAg] at h
  split at h
  ·rename_i s1 e; exact ⟨0,a,rfl,⟨_,_,e⟩,⟨_,_,h⟩⟩
  ·obtain ⟨j,b,h1,h2,h3⟩:=jSl h
   exact ⟨j+1,b,by simpa using h1,h2,by rw [show i+(j+1)=Nat.succ i+j by omega]; exact h3⟩
theorem mL {st:Sx} {l:List An} {k:Nat→An} (h:ok (sel st l k)):∃ j a,l[j]?=some a∧ok a∧ok (k j):=by
 obtain ⟨s,s',h⟩:=h
 unfold sel at h
 split at h
 ·obtain ⟨j,a,h1,h2,h3⟩:=jSl h
  rw [Nat.zero_add] at h3
  exact ⟨j,a,h1,h2,h3⟩
 ·split at h
  ·cases h
  ·rw [jX] at h
   split at h
   ·rename_i c r _ _ a e
    obtain ⟨h1,h2⟩:=qW ⟨_,_,h⟩
    exact ⟨_,a,e,h1,h2⟩
   ·cases h
theorem qT {b:Bool} {a c:An} (h:ok (bif b then a else c)):(b=true∧ok a)∨(b=false∧ok c):=by cases b; exact .inr ⟨rfl,h⟩; exact .inl ⟨rfl,h⟩
theorem zP {α:Type} (n:Nat) (k:Nat→α):jY n k=k n:=by cases n<;>rfl
theorem xE {α:Type} (n:Int) (k:Int→α):wY n k=k n:=by
 cases n with
 | ofNat m=>exact zP m (fun m=>k (.ofNat m))
 | negSucc m=>exact zP m (fun m=>k (.negSucc m))
theorem bU {z:Int} (h:geZ z=true):0≤z:=by cases z; exact Int.ofNat_nonneg _; simp [geZ] at h
theorem jRh {z:Int}:geZ z=decide (0≤z):=by
 cases z with
 | ofNat n=>simp [geZ]
 | negSucc n=>simp only [geZ]; exact (decide_eq_false (by omega)).symm
theorem vC {z:Int}:isZ z=decide (z=0):=by
 cases z with
 | ofNat n=>simp only [isZ]; cases n with
  | zero=>rfl
  | succ n=>exact (decide_eq_false (by intro h; cases h)).symm
 | negSucc n=>simp only [isZ]; exact (decide_eq_false (by intro h; cases h)).symm
theorem jHp {a b:Int} (h:eqI a b=true):a=b:=by
 unfold eqI at h
 split at h
 ·rw [Nat.eq_of_beq_eq_true h]
 ·rw [Nat.eq_of_beq_eq_true h]
 ·cases h
theorem jKk (ρ:Rho) (v:Nat) (a:Int):∀ l,evL ρ (jLb v a l)=a*(ρ v).z+evL ρ l
 | []=>by simp [jLb,evL]
 | p::r=>by
  simp only [jLb]
  cases h1:Nat.beq v p.1 with
  | true=>
   have e:=Nat.eq_of_beq_eq_true h1
   subst e
   simp only [cond_true,xE,vC]
   by_cases hz:a+p.2=0
   ·simp only [hz,decide_true,cond_true,evL]
    have:a*(ρ p.1).z+p.2*(ρ p.1).z=0:=by rw [←Int.add_mul,hz,Int.zero_mul]
    omega
   ·simp only [hz,decide_false,cond_false,evL,Int.add_mul]; omega
  | false=>
   simp only [cond_false]
   cases h2:Nat.blt p.1 v with
   | true=>simp only [cond_true,evL]
   | false=>simp only [cond_false,evL,jKk ρ v a r]; omega
theorem jKj (ρ:Rho):∀ l m,evL ρ (jNs l m)=evL ρ l+evL ρ m
 | [],m=>by simp [jNs,evL]
 | p::r,m=>by simp only [jNs,jKk,jKj ρ r m,evL]; omega
theorem jEu (ρ:Rho) (k:Int):∀ l,evL ρ (jDa k l)=k*evL ρ l
 | []=>by simp [jDa,evL]
 | p::r=>by simp only [jDa,xE,evL,jEu ρ k r,Int.mul_add,Int.mul_assoc]
@[simp] theorem qH (ρ:Rho) (c:Int):(LT.con c).ev ρ=c:=by simp [LT.con,LT.ev,evL]
@[simp] theorem qA (ρ:Rho) (v:Nat):(LT.var v).ev ρ=(ρ v).z:=by simp [LT.var,LT.ev,evL]
@[simp] theorem zU (ρ:Rho) (s t:LT):(s.add t).ev ρ=s.ev ρ+t.ev ρ:=by simp only [LT.add,xE,LT.ev,jKj]; omega
@[simp] theorem uK (ρ:Rho) (k:Int) (t:LT):(t.smul k).ev ρ=k*t.ev ρ:=by
 unfold LT.smul
 rw [vC]
 by_cases h:k=0
 ·subst h; simp [LT.ev,evL]
 ·simp only [h,decide_false,cond_false,xE,LT.ev,jEu,Int.mul_add]
@[simp] theorem jR (ρ:Rho) (s t:LT):(s.sub t).ev ρ=s.ev ρ - t.ev ρ:=by simp only [LT.sub,zU,uK]; omega
@[simp] theorem jG (ρ:Rho) (k:Int) (t:LT):(t.addc k).ev ρ=t.ev ρ+k:=by simp only [LT.addc,xE,LT.ev]; omega
@[simp] theorem qN (ρ:Rho) (t:LT):(t.neg).ev ρ = - t.ev ρ:=by simp only [LT.neg,uK]; omega
@[simp] theorem jYc (ρ:Rho) (t:LT):(t.not).ev ρ = - t.ev ρ - 1:=by simp only [LT.not,uK,jG]; omega
theorem jQg:∀ {l m:List (Nat×Int)},jUh l m=true→l=m
 | [],[],_=>rfl
 | [],_::_,h=>by simp [jUh] at h
 | _::_,[],h=>by simp [jUh] at h
 | p::r,q::s,h=>by
  simp only [jUh,Bool.and_eq_true] at h
  obtain ⟨h1,h2,h3⟩:=h
  obtain ⟨a,b⟩:=p
  obtain ⟨c,d⟩:=q
  have e1:=Nat.eq_of_beq_eq_true h1
  have e2:=jHp h2
  dsimp only at e1 e2
  subst e1; subst e2
  rw [jQg h3]
theorem LT.beq_ok {s t:LT} (h:s.beq t=true):s=t:=by
 simp only [LT.beq,Bool.and_eq_true] at h
 obtain ⟨a,b⟩:=s
 obtain ⟨c,d⟩:=t
 have e1:=jHp h.1
 have e2:=jQg h.2
 dsimp only at e1 e2
 subst e1; subst e2; rfl
theorem uM {t:LT} (h:t.isC=true) (ρ:Rho):t.ev ρ=t.c:=by
 unfold LT.isC at h
 split at h
 ·rename_i e; simp only [LT.ev,e,evL,Int.add_zero]
 ·cases h
theorem jXu {ρ:Rho} {a b:Int} {t f u:LT} (h:jXt a b t f=some u) (hf:0≤f.ev ρ) (hu:0≤u.ev ρ):0≤t.ev ρ:=by
 have key:∀ (k m:Nat),0≤(Int.ofNat (k+1))*t.ev ρ+(Int.negSucc m)*f.ev ρ→0≤t.ev ρ:=by
  intro k m q
  have h1:(Int.negSucc m)*f.ev ρ≤0:=by
   have:=Int.mul_nonneg (show (0:Int)≤(m+1:Int) by omega) hf
   have e:(Int.negSucc m)*f.ev ρ = - ((m+1:Int)*f.ev ρ):=by
    rw [show Int.negSucc m = - ((m:Int)+1) from Int.negSucc_eq m,Int.neg_mul]
   omega
  have h2:0≤(Int.ofNat (k+1))*t.ev ρ:=by omega
  by_cases hn:0≤t.ev ρ
  ·exact hn
  ·exfalso
   have:(Int.ofNat (k+1))*t.ev ρ<0:=Int.mul_neg_of_pos_of_neg (by show (0:Int)<((k+1:Nat):Int); omega) (by omega)
   omega
 unfold jXt at h
 split at h
 ·split at h
  ·cases h
  ·cases h
  ·cases h
   simp only [zU,uK] at hu
   exact key _ _ hu
 ·cases h
  simp only [zU,uK] at hu
  exact key _ _ hu
 ·cases h
theorem jOb {ρ:Rho} {F:List LT} (hF:∀ f,f∈F→0≤f.ev ρ):∀ {n c:Nat} {t:LT},chk F n c t=true→0≤t.ev ρ
 | 0,c,t,h=>by simp [chk] at h
 | n+1,c,t,h=>by
  simp only [chk] at h
  split at h
  ·rename_i e; have:=bU h; simp only [LT.ev,e,evL]; omega
  ·rw [jX] at h
   split at h
   ·rename_i f e
    split at h
    ·rename_i u hu
     exact jXu hu (hF f (List.mem_of_getElem? e)) (jOb hF h)
    ·cases h
   ·cases h
theorem jEt {ρ ρ':Rho} {n:Nat} (ag:∀ k,k<n→ρ' k=ρ k):∀ {l:List (Nat×Int)},scL n l=true→evL ρ' l=evL ρ l
 | [],_=>rfl
 | p::r,h=>by
  simp only [scL,Bool.and_eq_true] at h
  simp only [evL,ag p.1 (Nat.le_of_ble_eq_true h.1),jEt ag h.2]
theorem jK {ρ ρ':Rho} {n:Nat} (ag:∀ k,k<n→ρ' k=ρ k) {t:LT} (h:t.sc n=true):t.ev ρ'=t.ev ρ:=by simp only [LT.ev,jEt ag h]
theorem jMl {n v:Nat} {a:Int} (hv:v<n):∀ {l:List (Nat×Int)},scL n l=true→scL n (jLb v a l)=true
 | [],_=>by simp only [jLb,scL,Bool.and_true]; exact Nat.ble_eq_true_of_le hv
 | p::r,h=>by
  simp only [scL,Bool.and_eq_true] at h
  simp only [jLb]
  cases h1:Nat.beq v p.1 with
  | true=>
   simp only [cond_true,xE]
   cases isZ (a+p.2) with
   | true=>exact h.2
   | false=>simp only [cond_false,scL,Bool.and_eq_true]; exact ⟨Nat.ble_eq_true_of_le hv,h.2⟩
  | false=>
   simp only [cond_false]
   cases h2:Nat.blt p.1 v with
   | true=>simp only [cond_true,scL,Bool.and_eq_true]; exact ⟨Nat.ble_eq_true_of_le hv,h.1,h.2⟩
   | false=>simp only [cond_false,scL,Bool.and_eq_true]; exact ⟨h.1,jMl hv h.2⟩
theorem jMk {n:Nat}:∀ {l m:List (Nat×Int)},scL n l=true→scL n m=true→scL n (jNs l m)=true
 | [],m,_,h=>h
 | p::r,m,h,k=>by
  simp only [scL,Bool.and_eq_true] at h
  simp only [jNs]
  exact jMl (Nat.le_of_ble_eq_true h.1) (jMk h.2 k)
theorem jFx {n:Nat} {k:Int}:∀ {l:List (Nat×Int)},scL n l=true→scL n (jDa k l)=true
 | [],_=>rfl
 | p::r,h=>by
  simp only [scL,Bool.and_eq_true] at h
  simp only [jDa,xE,scL,Bool.and_eq_true]
  exact ⟨h.1,jFx h.2⟩
theorem jMm {n m:Nat} (h:n≤m):∀ {l:List (Nat×Int)},scL n l=true→scL m l=true
 | [],_=>rfl
 | p::r,k=>by
  simp only [scL,Bool.and_eq_true] at k ⊢
  exact ⟨Nat.ble_eq_true_of_le (Nat.le_trans (Nat.le_of_ble_eq_true k.1) h),jMm h k.2⟩
theorem zQ {n:Nat} (c:Int):(LT.con c).sc n=true:=rfl
theorem kA {n v:Nat} (h:v<n):(LT.var v).sc n=true:=by simp only [LT.var,LT.sc,scL,Bool.and_true]; exact Nat.ble_eq_true_of_le h
theorem qIa {n:Nat} {s t:LT} (h:s.sc n=true) (k:t.sc n=true):(s.add t).sc n=true:=by simp only [LT.add,xE,LT.sc]; exact jMk h k
theorem oN {n:Nat} {k:Int} {t:LT} (h:t.sc n=true):(t.smul k).sc n=true:=by
 unfold LT.smul
 cases isZ k with
 | true=>rfl
 | false=>simp only [cond_false,xE,LT.sc]; exact jFx h
theorem mO {n:Nat} {s t:LT} (h:s.sc n=true) (k:t.sc n=true):(s.sub t).sc n=true:=qIa h (oN k)
theorem iM {n:Nat} {t:LT} (h:t.sc n=true):(t.neg).sc n=true:=oN h
theorem vI {n:Nat} {k:Int} {t:LT} (h:t.sc n=true):(t.addc k).sc n=true:=by simp only [LT.addc,xE,LT.sc]; exact h
theorem jF {n m:Nat} (h:n≤m) {t:LT} (k:t.sc n=true):t.sc m=true:=jMm h k
theorem Gn.agree {ρ ρ':Rho} {n:Nat} (ag:∀ k,k<n→ρ' k=ρ k) {g:Gn} (h:g.sc n=true):g.den ρ'=g.den ρ:=by
 obtain ⟨v,o⟩:=g
 cases v with
 | zero=>rfl
 | succ j=>simp only [Gn.den]; rw [ag j (Nat.le_of_ble_eq_true h)]
theorem Gn.mono {n m:Nat} (h:n≤m) {g:Gn} (k:g.sc n=true):g.sc m=true:=Nat.ble_eq_true_of_le (Nat.le_trans (Nat.le_of_ble_eq_true k) h)
mutual
theorem SX.agree {ρ ρ':Rho} {n:Nat} (ag:∀ k,k<n→ρ' k=ρ k):∀ {x:SX},x.sc n=true→x.den ρ'=x.den ρ
 | .b _,_=>rfl
 | .bv t,h=>by simp only [SX.den,jK ag (t:=t) h]
 | .i k t,h=>by simp only [SX.den,jK ag (t:=t) h]
 | .s a c,h=>by simp only [SX.sc,Bool.and_eq_true] at h; simp only [SX.den,jK ag h.1,jK ag h.2]
 | .p0,_=>rfl
 | .sl0,_=>rfl
 | .tp i g o,h=>by simp only [SX.den,Gn.agree ag (g:=g) h]
 | .te i g k o,h=>by simp only [SX.sc,Bool.and_eq_true] at h; simp only [SX.den,Gn.agree ag h.1,jK ag h.2]
 | .ts i g k o,h=>by simp only [SX.sc,Bool.and_eq_true] at h; simp only [SX.den,Gn.agree ag h.1,jK ag h.2]
 | .q T r k,h=>by simp only [SX.sc,Bool.and_eq_true] at h; simp only [SX.den,jK ag h.1,jK ag h.2]
 | .qp T r o,h=>by simp only [SX.den,jK ag (t:=r) h]
 | .qs j,h=>by simp only [SX.den,ag j (Nat.le_of_ble_eq_true h)]
 | .xs a c,h=>by simp only [SX.sc,Bool.and_eq_true] at h; simp only [SX.den,jK ag h.1,jK ag h.2]
 | .f fn a c,h=>by simp only [SX.sc,Bool.and_eq_true] at h; simp only [SX.den,zO ag h.1,zO ag h.2]
 | .agg l,h=>by simp only [SX.den,zO ag (l:=l) h]
 | .tup l,h=>by simp only [SX.den,zO ag (l:=l) h]
 | .fis t,h=>by simp only [SX.den,jK ag (t:=t) h]
 | .fqs,_=>rfl
theorem zO {ρ ρ':Rho} {n:Nat} (ag:∀ k,k<n→ρ' k=ρ k):∀ {l:List SX},scs n l=true→jQ ρ' l=jQ ρ l
 | [],_=>rfl
 | x::l,h=>by simp only [scs,Bool.and_eq_true] at h; simp only [jQ,SX.agree ag h.1,zO ag h.2]
end
mutual
theorem SX.mono {n m:Nat} (h:n≤m):∀ {x:SX},x.sc n=true→x.sc m=true
 | .b _,_=>rfl
 | .bv t,k=>jF h k
 | .i _ t,k=>jF h k
 | .s a c,k=>by simp only [SX.sc,Bool.and_eq_true] at k ⊢; exact ⟨jF h k.1,jF h k.2⟩
 | .p0,_=>rfl
 | .sl0,_=>rfl
 | .tp i g o,k=>Gn.mono h k
 | .te i g j o,k=>by simp only [SX.sc,Bool.and_eq_true] at k ⊢; exact ⟨Gn.mono h k.1,jF h k.2⟩
 | .ts i g j o,k=>by simp only [SX.sc,Bool.and_eq_true] at k ⊢; exact ⟨Gn.mono h k.1,jF h k.2⟩
 | .q T r j,k=>by simp only [SX.sc,Bool.and_eq_true] at k ⊢; exact ⟨jF h k.1,jF h k.2⟩
 | .qp T r o,k=>jF h k
 | .qs j,k=>Nat.ble_eq_true_of_le (Nat.le_trans (Nat.le_of_ble_eq_true k) h)
 | .xs a c,k=>by simp only [SX.sc,Bool.and_eq_true] at k ⊢; exact ⟨jF h k.1,jF h k.2⟩
 | .f fn a c,k=>by simp only [SX.sc,Bool.and_eq_true] at k ⊢; exact ⟨xQ h k.1,xQ h k.2⟩
 | .agg l,k=>xQ h k
 | .tup l,k=>xQ h k
 | .fis t,k=>jF h k
 | .fqs,_=>rfl
theorem xQ {n m:Nat} (h:n≤m):∀ {l:List SX},scs n l=true→scs m l=true
 | [],_=>rfl
 | x::l,k=>by simp only [scs,Bool.and_eq_true] at k ⊢; exact ⟨SX.mono h k.1,xQ h k.2⟩
end
theorem HCX.agree {ρ ρ':Rho} {n:Nat} (ag:∀ k,k<n→ρ' k=ρ k) {c:HCX} (h:c.sc n=true):c.den ρ'=c.den ρ:=by
 cases c with
 | l m=>simp only [HCX.den,zO ag (l:=m) h]
 | r T R k=>simp only [HCX.sc,Bool.and_eq_true] at h; simp only [HCX.den,jK ag h.1,jK ag h.2]
 | xs j=>simp only [HCX.den,ag j (Nat.le_of_ble_eq_true h)]
 | rl T R k m=>simp only [HCX.sc,Bool.and_eq_true] at h; simp only [HCX.den,jK ag h.1,jK ag h.2.1,zO ag (l:=m) h.2.2]
 | dead=>rfl
theorem HCX.mono {n m:Nat} (h:n≤m) {c:HCX} (k:c.sc n=true):c.sc m=true:=by
 cases c with
 | l l=>exact xQ h k
 | r T R j=>simp only [HCX.sc,Bool.and_eq_true] at k ⊢; exact ⟨jF h k.1,jF h k.2⟩
 | xs j=>exact Nat.ble_eq_true_of_le (Nat.le_trans (Nat.le_of_ble_eq_true k) h)
 | rl T R j m=>simp only [HCX.sc,Bool.and_eq_true] at k ⊢; exact ⟨jF h k.1,jF h k.2.1,xQ h k.2.2⟩
 | dead=>rfl
theorem zM {ρ ρ':Rho} {n:Nat} (ag:∀ k,k<n→ρ' k=ρ k):∀ {H:List HX},scH n H=true→denH ρ' H=denH ρ H
 | [],_=>rfl
 | x::l,h=>by
  simp only [scH,Bool.and_eq_true] at h
  have:=zM ag h.2.2
  simp only [denH,List.map_cons,HX.den,Gn.agree ag h.1,HCX.agree ag h.2.1] at this ⊢
  rw [this]
theorem uH {n m:Nat} (h:n≤m):∀ {H:List HX},scH n H=true→scH m H=true
 | [],_=>rfl
 | x::l,k=>by simp only [scH,Bool.and_eq_true] at k ⊢; exact ⟨Gn.mono h k.1,HCX.mono h k.2.1,uH h k.2.2⟩
theorem yH {ρ ρ':Rho} {n:Nat} (ag:∀ k,k<n→ρ' k=ρ k):∀ {E:EX},scE n E=true→denE ρ' E=denE ρ E
 | [],_=>rfl
 | x::l,h=>by simp only [scE,Bool.and_eq_true] at h; simp only [denE,SX.agree ag h.1,yH ag h.2]
theorem aE {n m:Nat} (h:n≤m):∀ {E:EX},scE n E=true→scE m E=true
 | [],_=>rfl
 | x::l,k=>by simp only [scE,Bool.and_eq_true] at k ⊢; exact ⟨SX.mono h k.1,aE h k.2⟩
theorem aF {n:Nat}:∀ {l:List LT},scF n l=true↔∀ t,t∈l→t.sc n=true
 | []=>by simp [scF]
 | x::l=>by simp [scF,Bool.and_eq_true,aF (l:=l)]
theorem oL {n:Nat}:∀ {l:List TE},scB n l=true↔∀ t,t∈l→t.sc n=true
 | []=>by simp [scB]
 | x::l=>by simp [scB,Bool.and_eq_true,oL (l:=l)]
theorem nY {n:Nat}:∀ {l:List SX},scs n l=true↔∀ t,t∈l→t.sc n=true
 | []=>by simp [scs]
 | x::l=>by simp [scs,Bool.and_eq_true,nY (l:=l)]
def TE.holds (G:Nat→List SV→SV→Prop) (ρ:Rho):TE→Prop
 | .by_ c t r=>byZ (c.ev ρ).toNat (t.ev ρ)=r.ev ρ
 | .el j t n c=>(ρ j).l[(t.ev ρ).toNat]?=some ((n.ev ρ).toNat,(c.ev ρ).toNat)
 | .ln j n m=>((ρ j).l.length:Int)=n.ev ρ∧∀ p,p∈(ρ j).l→(p.1:Int)≤m.ev ρ
 | .ca f a r=>G f (jQ ρ a) (r.den ρ)
 | .dv a b q=>a.ev ρ / b=q.ev ρ
 | .ng g c a b=>g.ev ρ=2→∀ k:Int,a.ev ρ≤k→k<b.ev ρ→byZ (c.ev ρ).toNat k≠10
theorem TE.agree {G:Nat→List SV→SV→Prop} {ρ ρ':Rho} {n:Nat} (ag:∀ k,k<n→ρ' k=ρ k) {t:TE} (h:t.sc n=true):t.holds G ρ'↔t.holds G ρ:=by
 cases t with
 | by_ c i r=>simp only [TE.sc,Bool.and_eq_true] at h; simp only [TE.holds,jK ag h.1,jK ag h.2.1,jK ag h.2.2]
 | el j i a c=>simp only [TE.sc,Bool.and_eq_true] at h; simp only [TE.holds,ag j (Nat.le_of_ble_eq_true h.1),jK ag h.2.1,jK ag h.2.2.1,jK ag h.2.2.2]
 | ln j a m=>simp only [TE.sc,Bool.and_eq_true] at h; simp only [TE.holds,ag j (Nat.le_of_ble_eq_true h.1),jK ag h.2.1,jK ag h.2.2]
 | ca f a r=>simp only [TE.sc,Bool.and_eq_true] at h; simp only [TE.holds,zO ag h.1,SX.agree ag h.2]
 | dv a b q=>simp only [TE.sc,Bool.and_eq_true] at h; simp only [TE.holds,jK ag h.1,jK ag h.2]
 | ng g c a b=>simp only [TE.sc,Bool.and_eq_true] at h; simp only [TE.holds,jK ag h.1,jK ag h.2.1,jK ag h.2.2.1,jK ag h.2.2.2]
theorem TE.mono {n m:Nat} (h:n≤m) {t:TE} (k:t.sc n=true):t.sc m=true:=by
 have lt:∀ {j:Nat},Nat.blt j n=true→Nat.blt j m=true:=fun k=>Nat.ble_eq_true_of_le (Nat.le_trans (Nat.le_of_ble_eq_true k) h)
 cases t with
 | by_ c i r=>simp only [TE.sc,Bool.and_eq_true] at k ⊢; exact ⟨jF h k.1,jF h k.2.1,jF h k.2.2⟩
 | el j i a c=>simp only [TE.sc,Bool.and_eq_true] at k ⊢; exact ⟨lt k.1,jF h k.2.1,jF h k.2.2.1,jF h k.2.2.2⟩
 | ln j a m=>simp only [TE.sc,Bool.and_eq_true] at k ⊢; exact ⟨lt k.1,jF h k.2.1,jF h k.2.2⟩
 | ca f a r=>simp only [TE.sc,Bool.and_eq_true] at k ⊢; exact ⟨xQ h k.1,SX.mono h k.2⟩
 | dv a b q=>simp only [TE.sc,Bool.and_eq_true] at k ⊢; exact ⟨jF h k.1,jF h k.2⟩
 | ng g c a b=>simp only [TE.sc,Bool.and_eq_true] at k ⊢; exact ⟨jF h k.1,jF h k.2.1,jF h k.2.2.1,jF h k.2.2.2⟩
structure Inv (G:Nat→List SV→SV→Prop) (ρ:Rho) (st:Sx):Prop where
 e:scE st.n st.E=true
 h:scH st.n st.H=true
 f:∀ t,t∈st.F→t.sc st.n=true
 n:∀ t,t∈st.N→t.sc st.n=true
 b:∀ t,t∈st.B→t.sc st.n=true
 F:∀ t,t∈st.F→0≤t.ev ρ
 N:∀ t,t∈st.N→t.ev ρ≠0
 B:∀ t,t∈st.B→t.holds G ρ
structure Nx (G:Nat→List SV→SV→Prop) (ρ:Rho) (st:Sx) (ρ':Rho) (st':Sx):Prop where
 n:st.n≤st'.n
 ag:∀ k,k<st.n→ρ' k=ρ k
 E:st'.E=st.E
 H:st'.H=st.H
 inv:Inv G ρ' st'
section
variable {G:Nat→List SV→SV→Prop} {ρ ρ' ρ2:Rho} {st st' st2:Sx}
theorem Nx.refl (h:Inv G ρ st):Nx G ρ st ρ st:=⟨Nat.le_refl _,fun _ _=>rfl,rfl,rfl,h⟩
theorem Nx.trans (h:Nx G ρ st ρ' st') (k:Nx G ρ' st' ρ2 st2):Nx G ρ st ρ2 st2:=
 ⟨Nat.le_trans h.n k.n,fun j hj=>(k.ag j (Nat.lt_of_lt_of_le hj h.n)).trans (h.ag j hj),k.E.trans h.E,k.H.trans h.H,k.inv⟩
theorem Nx.sx (h:Nx G ρ st ρ' st') {x:SX} (k:x.sc st.n=true):x.den ρ'=x.den ρ:=SX.agree h.ag k
theorem Nx.lt (h:Nx G ρ st ρ' st') {x:LT} (k:x.sc st.n=true):x.ev ρ'=x.ev ρ:=jK h.ag k
theorem Nx.denE (h:Nx G ρ st ρ' st') (hi:Inv G ρ st):denE ρ' st'.E=denE ρ st.E:=by rw [h.E]; exact yH h.ag hi.e
theorem Nx.denH (h:Nx G ρ st ρ' st') (hi:Inv G ρ st):denH ρ' st'.H=denH ρ st.H:=by rw [h.H]; exact zM h.ag hi.h
theorem Inv.addF (h:Inv G ρ st) {t:LT} (hs:t.sc st.n=true) (hp:0≤t.ev ρ):Nx G ρ st ρ (st.addF t):=
 ⟨Nat.le_refl _,fun _ _=>rfl,rfl,rfl,h.e,h.h,fun x hx=>by rcases List.mem_cons.1 hx with rfl | hx; exact hs; exact h.f x hx,h.n,h.b,fun x hx=>by rcases List.mem_cons.1 hx with rfl | hx; exact hp; exact h.F x hx,h.N,h.B⟩
theorem Inv.addN (h:Inv G ρ st) {t:LT} (hs:t.sc st.n=true) (hp:t.ev ρ≠0):Nx G ρ st ρ (st.addN t):=
 ⟨Nat.le_refl _,fun _ _=>rfl,rfl,rfl,h.e,h.h,h.f,fun x hx=>by rcases List.mem_cons.1 hx with rfl | hx; exact hs; exact h.n x hx,h.b,h.F,fun x hx=>by rcases List.mem_cons.1 hx with rfl | hx; exact hp; exact h.N x hx,h.B⟩
theorem Inv.addB (h:Inv G ρ st) {t:TE} (hs:t.sc st.n=true) (hp:t.holds G ρ):Nx G ρ st ρ (st.addB t):=
 ⟨Nat.le_refl _,fun _ _=>rfl,rfl,rfl,h.e,h.h,h.f,h.n,fun x hx=>by rcases List.mem_cons.1 hx with rfl | hx; exact hs; exact h.b x hx,h.F,h.N,fun x hx=>by rcases List.mem_cons.1 hx with rfl | hx; exact hp; exact h.B x hx⟩
theorem Inv.addFs (h:Inv G ρ st):∀ {l:List LT},(∀ t,t∈l→t.sc st.n=true∧0≤t.ev ρ)→Nx G ρ st ρ (addFs st l)
 | [],_=>Nx.refl h
 | t::r,k=>by
  have h1:=Inv.addFs h (l:=r) fun t ht=>k t (List.mem_cons_of_mem _ ht)
  obtain ⟨k1,k2⟩:=k t (List.mem_cons_self ..)
  exact h1.trans (h1.inv.addF (jF h1.n k1) k2)
def Rho.set (ρ:Rho) (n:Nat) (x:Rv):Rho:=fun k=>if k=n then x else ρ k
theorem Inv.up (h:Inv G ρ st) {ρ':Rho} {m:Nat} (hm:st.n≤m) (ag:∀ k,k<st.n→ρ' k=ρ k):Nx G ρ st ρ' (st.up m):=
 ⟨hm,ag,rfl,rfl,aE hm h.e,uH hm h.h,fun t ht=>jF hm (h.f t ht),fun t ht=>jF hm (h.n t ht),fun t ht=>TE.mono hm (h.b t ht),
  fun t ht=>by rw [jK ag (h.f t ht)]; exact h.F t ht,fun t ht=>by rw [jK ag (h.n t ht)]; exact h.N t ht,fun t ht=>(TE.agree ag (h.b t ht)).2 (h.B t ht)⟩
theorem zB {k:LT→Sx→An} (h:ok (fresh st k)) (hi:Inv G ρ st) (x:Rv):Nx G ρ st (ρ.set st.n x) (st.up (st.n+1))∧(ρ.set st.n x) st.n=x∧ok (k (.var st.n) (st.up (st.n+1))):=by
 unfold fresh at h
 rw [zP] at h
 exact ⟨hi.up (Nat.le_succ _) fun k hk=>by unfold Rho.set; rw [if_neg (by omega)],by simp [Rho.set],h⟩
theorem jE {t:LT} {r:An} (h:ok (ask st t r)) (hi:Inv G ρ st):0≤t.ev ρ∧ok r:=by
 unfold ask at h
 split at h
 ·rename_i e
  obtain ⟨h1,h2⟩:=jB h
  have:=bU h1
  exact ⟨by simp only [LT.ev,e,evL]; omega,h2⟩
 ·obtain ⟨c,h⟩:=dD h
  obtain ⟨h1,h2⟩:=jB h
  exact ⟨jOb hi.F h1,h2⟩
theorem sW:∀ {l:List LT} {r:An},ok (jNv st l r)→Inv G ρ st→(∀ t,t∈l→0≤t.ev ρ)∧ok r
 | [],r,h,hi=>⟨fun t ht=>(by cases ht),h⟩
 | t::l,r,h,hi=>by
  obtain ⟨h1,h2⟩:=jE (r:=jNv st l r) h hi
  obtain ⟨h3,h4⟩:=sW h2 hi
  exact ⟨fun x hx=>by rcases List.mem_cons.1 hx with rfl | hx; exact h1; exact h3 x hx,h4⟩
theorem jNx {k:Sx→An}:∀ {n c:Nat} {t:LT},ok (lW st t k n c)→Inv G ρ st→0≤t.ev ρ→∃ st',Nx G ρ st ρ st'∧ok (k st'):=by
 intro n
 induction n with
 | zero=>
  intro c t h hi hp
  obtain ⟨h1,h2⟩:=jB h
  exact ⟨_,hi.addF h1 hp,h2⟩
 | succ n ih=>
  intro c t h hi hp
  simp only [lW] at h
  split at h
  ·obtain ⟨h1,h2⟩:=jB h
   exact ⟨_,hi.addF h1 hp,h2⟩
  ·exact ⟨st,Nx.refl hi,h⟩
  ·obtain ⟨h1,_⟩:=jB h
   have:=jOb hi.F h1
   rw [jYc] at this
   omega
  ·rw [jX] at h
   split at h
   ·rename_i d hd
    obtain ⟨h1,h2⟩:=jB h
    have hn:=hi.N d (List.mem_of_getElem? hd)
    obtain ⟨c',h2⟩:=dD h2
    have ht:t.ev ρ≠0:=by
     rw [Bool.or_eq_true] at h1
     rcases h1 with h1 | h1
     ·rw [←LT.beq_ok h1]; exact hn
     ·have:=LT.beq_ok h1
      rw [←this,qN]; omega
    exact ih h2 hi (by rw [jG]; omega)
   ·exact (jC h).elim
theorem qD {k:Sx→An} {t:LT} (h:ok (zT st t k)) (hi:Inv G ρ st) (hp:0≤t.ev ρ):∃ st',Nx G ρ st ρ st'∧ok (k st'):=by
 unfold zT at h
 split at h
 ·rename_i e
  rw [jRh] at h
  have:0≤t.c:=by simp only [LT.ev,e,evL] at hp; omega
  rw [decide_eq_true this] at h
  exact ⟨st,Nx.refl hi,h⟩
 ·obtain ⟨c,h⟩:=dD h
  exact jNx h hi hp
theorem iU {k:Bool→Sx→An} {t:LT} (h:ok (xge st t k)) (hi:Inv G ρ st):∃ st',Nx G ρ st ρ st'∧ok (k (decide (0≤t.ev ρ)) st'):=by
 unfold xge at h
 split at h
 ·rename_i e
  have:t.c=t.ev ρ:=by simp only [LT.ev,e,evL]; omega
  rw [jRh,this] at h
  exact ⟨st,Nx.refl hi,h⟩
 ·obtain ⟨h1,h2⟩:=qW h
  by_cases q:0≤t.ev ρ
  ·rw [decide_eq_true q]; exact qD h1 hi q
  ·rw [decide_eq_false q]; exact qD h2 hi (by rw [jYc]; omega)
theorem jOl {d:LT}:∀ {l:List LT},inN d l=true→(∀ t,t∈l→t.ev ρ≠0)→d.ev ρ≠0
 | [],h,_=>by simp [inN] at h
 | x::r,h,k=>by
  simp only [inN,Bool.or_eq_true] at h
  rcases h with h | h | h
  ·rw [LT.beq_ok h]; exact k x (List.mem_cons_self ..)
  ·have:=LT.beq_ok h
   have h2:=k x (List.mem_cons_self ..)
   rw [←this,qN] at h2; omega
  ·exact jOl h fun t ht=>k t (List.mem_cons_of_mem _ ht)
theorem jQe {k:Sx→An} {d:LT} (h:ok (qCy st d k)) (hi:Inv G ρ st) (hp:d.ev ρ≠0):∃ st',Nx G ρ st ρ st'∧ok (k st'):=by
 unfold qCy at h
 split at h
 ·rename_i e
  have hc:d.c≠0:=by simp only [LT.ev,e,evL] at hp; omega
  rw [vC,decide_eq_false hc] at h
  exact ⟨st,Nx.refl hi,h⟩
 ·obtain ⟨j,a,hj,ha,h⟩:=mL h
  split at h
  ·simp at hj; subst hj
   obtain ⟨h1,_⟩:=jE ha hi
   exact qD h hi (by rw [jG]; omega)
  ·simp at hj; subst hj
   obtain ⟨h1,_⟩:=jE ha hi
   rw [qN] at h1
   exact qD h hi (by rw [jG,qN]; omega)
  ·obtain ⟨h1,h2⟩:=jB h
   exact ⟨_,hi.addN h1 hp,h2⟩
theorem qBx {k:Bool→Sx→An} {d:LT} (h:ok (xeq st d k)) (hi:Inv G ρ st):∃ st',Nx G ρ st ρ st'∧ok (k (decide (d.ev ρ=0)) st'):=by
 unfold xeq at h
 split at h
 ·rename_i e
  have:d.c=d.ev ρ:=by simp only [LT.ev,e,evL]; omega
  rw [vC,this] at h
  exact ⟨st,Nx.refl hi,h⟩
 ·rcases qT h with ⟨h1,h⟩ | ⟨_,h⟩
  ·rw [decide_eq_false (jOl h1 hi.N)]
   exact ⟨st,Nx.refl hi,h⟩
  ·obtain ⟨h1,h2⟩:=qW h
   by_cases q:d.ev ρ=0
   ·rw [decide_eq_true q]
    obtain ⟨s1,n1,h1⟩:=qD h1 hi (by omega)
    obtain ⟨s2,n2,h1⟩:=qD h1 n1.inv (by rw [qN]; omega)
    exact ⟨s2,n1.trans n2,h1⟩
   ·rw [decide_eq_false q]; exact jQe h2 hi q
theorem qJ {a b:LT} {r:An} (h:ok (vP st a b r)) (hi:Inv G ρ st):a.ev ρ=b.ev ρ∧ok r:=by
 unfold vP at h
 rcases qT h with ⟨h1,h⟩ | ⟨_,h⟩
 ·rw [LT.beq_ok h1]; exact ⟨rfl,h⟩
 ·obtain ⟨h1,h⟩:=jE h hi
  obtain ⟨h2,h⟩:=jE h hi
  rw [jR] at h1 h2
  exact ⟨by omega,h⟩
theorem xP:∀ {E:EX} {n:Nat},look (denE ρ E) n=(yK E n).map (SX.den ρ)
 | [],n=>rfl
 | p::l,n=>by
  simp only [denE,look,jBu]
  cases Nat.beq p.1 n with
  | true=>rfl
  | false=>simpa using xP (E:=l)
theorem uE {m:Nat}:∀ {E:EX} {n:Nat} {v:SX},scE m E=true→yK E n=some v→v.sc m=true
 | [],n,v,h,e=>by cases e
 | p::l,n,v,h,e=>by
  simp only [scE,Bool.and_eq_true] at h
  simp only [jBu] at e
  cases hb:Nat.beq p.1 n with
  | true=>rw [hb] at e; simp at e; subst e; exact h.1
  | false=>rw [hb] at e; exact uE h.2 e
mutual
theorem jSi:∀ (v:AV),okA v=true→(ofX v).den ρ=ofA v
 | .b _,_=>rfl
 | .i _ n,_=>by simp [ofX,SX.den,ofA]
 | .s n v,_=>by simp [ofX,SX.den,ofA]
 | .p0,_=>rfl
 | .sl0,_=>rfl
 | .agg l,h=>by simp only [ofX,SX.den,ofA,gN l h]
 | .tup l,h=>by simp only [ofX,SX.den,ofA,gN l h]
 | .p _ _,k=>by simp [okA] at k
 | .sl _ _ _ _,k=>by simp [okA] at k
 | .f0,k=>by simp [okA] at k
 | .f _ a c,k=>by
  simp only [okA,Bool.and_eq_true] at k
  simp only [ofX,SX.den,ofA,gN a k.1,gN c k.2]
 | .ni,k=>by simp [okA] at k
 | .ifc _ _,k=>by simp [okA] at k
 | .m _,k=>by simp [okA] at k
 | .mp _,k=>by simp [okA] at k
 | .ifx,k=>by simp [okA] at k
 | .mr _ _ _ _,k=>by simp [okA] at k
 | .fs _ _ _ _,k=>by simp [okA] at k
 | .fi _,k=>by simp [okA] at k
 | .fq _,k=>by simp [okA] at k
 | .sm _,k=>by simp [okA] at k
theorem gN:∀ (l:List AV),kW l=true→jQ ρ (iB l)=ofAs l
 | [],_=>rfl
 | a::l,h=>by
  simp only [kW,Bool.and_eq_true] at h
  simp only [iB,jQ,ofAs,jSi a h.1,gN l h.2]
end
mutual
theorem jZm {n:Nat}:∀ (v:AV),(ofX v).sc n=true
 | .b _=>rfl
 | .i _ _=>rfl
 | .s _ _=>rfl
 | .p0=>rfl
 | .sl0=>rfl
 | .agg l=>hY l
 | .tup l=>hY l
 | .p _ _=>rfl
 | .sl _ _ _ _=>rfl
 | .f0=>rfl
 | .f _ a c=>by simp only [ofX,SX.sc,hY a,hY c,Bool.and_self]
 | .ni=>rfl
 | .ifc _ _=>rfl
 | .m _=>rfl
 | .mp _=>rfl
 | .ifx=>rfl
 | .mr _ _ _ _=>rfl
 | .fs _ _ _ _=>rfl
 | .fi _=>rfl
 | .fq _=>rfl
 | .sm _=>rfl
theorem hY {n:Nat}:∀ (l:List AV),scs n (iB l)=true
 | []=>rfl
 | a::l=>by simp only [iB,scs,Bool.and_eq_true]; exact ⟨jZm a,hY l⟩
end
theorem qY {x:X} {k:SX→An} {P:P1} (h:ok (xv st x k)) (hi:Inv G ρ st) (hk:∀ v,v.sc st.n=true→ok (k v)→P (v.den ρ)):vx (denE ρ st.E) x P:=by
 cases x with
 | k v=>
  obtain ⟨h1,h2⟩:=jB h
  simp only [vx,h1,req]
  rw [←jSi (ρ:=ρ) v h1]
  exact hk _ (jZm v) h2
 | t n=>
  simp only [xv] at h
  simp only [vx,kC,xP]
  split at h
  ·rename_i v e
   rw [e]
   exact hk v (uE hi.e e) h
  ·exact (jC h).elim
theorem sS:∀ {l:List X} {k:List SX→An} {P:List SV→Prop},ok (xvs st l k)→Inv G ρ st→(∀ v,scs st.n v=true→ok (k v)→P (jQ ρ v))→vxs (denE ρ st.E) l P
 | [],k,P,h,hi,hk=>hk [] rfl h
 | x::r,k,P,h,hi,hk=>qY (P:=fun v=>vxs (denE ρ st.E) r fun l=>P (v::l)) h hi fun v hv h=>sS h hi fun l hl h=>hk (v::l) (by simp only [scs,Bool.and_eq_true]; exact ⟨hv,hl⟩) h
end
end
end Go.Proofs.YtngfdcnglojcaaaGreatDoor.Ev.Rf
end
section
set_option linter.all false
namespace Go.Proofs.YtngfdcnglojcaaaGreatDoor.Ev.Rf
noncomputable section
open Go
section
variable {G:Nat→List SV→SV→Prop} {ρ ρ' ρ2:Rho} {st st' st2:Sx}
def HK (G:Nat→List SV→SV→Prop) (ρ:Rho) (st:Sx) (k:K1) (Q:P1):Prop:=∀ v st' ρ',Nx G ρ st ρ' st'→ok (k v st')→Q (v.den ρ')
theorem HK.go {k:K1} {Q:P1} (h:HK G ρ st k Q) (n:Nx G ρ st ρ' st'):HK G ρ' st' k Q:=fun v st2 ρ2 m h2=>h v st2 ρ2 (n.trans m) h2
theorem HK.now {k:K1} {Q:P1} (h:HK G ρ st k Q) (hi:Inv G ρ st) {v:SX} (h2:ok (k v st)):Q (v.den ρ):=h v st ρ (Nx.refl hi) h2
theorem jIk {k:IntKind} {t:LT} (h:∀ f,f∈jIj k t→0≤f.ev ρ):rng k (t.ev ρ):=by
 cases k<;>simp [jIj] at h<;>simp only [rng]<;>omega
theorem qEl {k:IntKind} {t:LT} {n:Nat} (hk:okK k=true) (h:rng k (t.ev ρ)) (hs:t.sc n=true):∀ f,f∈jIj k t→f.sc n=true∧0≤f.ev ρ:=by
 cases k<;>simp only [okK,Bool.false_eq_true] at hk<;>simp only [rng] at h<;>intro f hf<;>simp only [jIj,List.mem_cons,List.not_mem_nil,or_false] at hf<;>rcases hf with rfl | rfl <;>
  first
  | exact ⟨vI hs,by rw [jG]; omega⟩
  | exact ⟨vI (iM hs),by rw [jG,qN]; omega⟩
  | exact ⟨hs,by omega⟩
theorem aL {k:IntKind} {Q':K1} {Q:P1} (h:ok (jWj k st Q')) (hi:Inv G ρ st) (hk:HK G ρ st Q' Q):jJp k Q:=by
 obtain ⟨h1,h2⟩:=jB h
 simp only [jJp,h1,req]
 intro m hm
 obtain ⟨n1,e,h3⟩:=zB h2 hi ⟨m,[],0⟩
 have n2:=n1.inv.addFs (l:=jIj k (.var st.n)) (qEl h1 (by rw [qA,e]; exact hm) (kA (Nat.lt_succ_self _)))
 have:=hk _ _ _ (n1.trans n2) h3
 simp only [SX.den,qA,e] at this
 exact this
theorem pG {k:IntKind} {t:LT} {Q':K1} {Q:P1} (h:ok (jPu k t st Q')) (hi:Inv G ρ st) (hk:HK G ρ st Q' Q):rng k (t.ev ρ)∧Q (.i k (t.ev ρ)):=by
 obtain ⟨h1,h2⟩:=sW h hi
 exact ⟨jIk h1,hk.now hi h2⟩
theorem jPi {p:Prop} [Decidable p] {Q:P1} (h:Q (.b (decide p))):spl p Q:=⟨fun q=>by rwa [decide_eq_true q] at h,fun q=>by rwa [decide_eq_false q] at h⟩
theorem jTa {p:Prop} [Decidable p] {Q:P1} (h:Q (.b (!decide p))):qEs p Q:=⟨fun q=>by rwa [decide_eq_false q] at h,fun q=>by rwa [decide_eq_true q] at h⟩
theorem jAl {p q:Prop} [Decidable p] [Decidable q] (h:p↔q):decide p=decide q:=by simp [h]
theorem oP {t:LT} {p:Prop} [Decidable p] {Q':K1} {Q:P1} (hp:0≤t.ev ρ↔p) (h:ok (xge st t fun r st=>Q' (.b r) st)) (hi:Inv G ρ st) (hk:HK G ρ st Q' Q):spl p Q:=by
 obtain ⟨s1,n1,h⟩:=iU h hi
 rw [jAl hp] at h
 exact jPi (hk _ _ _ n1 h)
theorem eV {a:LT} {b:Int} {q:LT}:∀ {B:List TE},jBr a b B=some q→(.dv a b q:TE)∈B
 | [],h=>by cases h
 | t::r,h=>by
  simp only [jBr] at h
  split at h
  ·rename_i a' b' q'
   cases e:(a'.beq a&&eqI b' b) with
   | true=>
    rw [e] at h
    simp at h
    subst h
    rw [Bool.and_eq_true] at e
    rw [←LT.beq_ok e.1,←jHp e.2]
    exact List.mem_cons_self ..
   | false=>rw [e] at h; exact List.mem_cons_of_mem _ (eV h)
  ·exact List.mem_cons_of_mem _ (eV h)
theorem qBj {a b:LT} {k:LT→Sx→An} (h:ok (xDv a b st k)) (hi:Inv G ρ st):0≤a.ev ρ∧0<b.ev ρ∧∃ q ρ' st',Nx G ρ st ρ' st'∧q.ev ρ'=a.ev ρ / b.ev ρ∧a.ev ρ'=a.ev ρ∧b.c=b.ev ρ∧ok (k q st'):=by
 obtain ⟨e,h⟩:=jB h
 simp only [Bool.and_eq_true,decide_eq_true_eq] at e
 obtain ⟨e1,e2,e3⟩:=e
 obtain ⟨h1,h⟩:=jE h hi
 have eb:=uM e1 ρ
 split at h
 ·rename_i q e
  have:=hi.B _ (eV e)
  simp only [TE.holds] at this
  exact ⟨h1,by omega,q,ρ,st,Nx.refl hi,by rw [←this,eb],rfl,eb.symm,h⟩
 obtain ⟨n1,q,h⟩:=zB h hi ⟨a.ev ρ / b.ev ρ,[],0⟩
 have sv:(LT.var st.n).sc (st.n+1)=true:=kA (Nat.lt_succ_self _)
 have sa:a.sc (st.n+1)=true:=jF (Nat.le_succ _) e3
 have d1:=Int.mul_ediv_add_emod (a.ev ρ) (b.ev ρ)
 have d2:=Int.emod_nonneg (a.ev ρ) (b:=b.ev ρ) (by omega)
 have d3:=Int.emod_lt_of_pos (a.ev ρ) (b:=b.ev ρ) (by omega)
 have n2:=n1.inv.addFs (l:=[.var st.n,a.sub ((LT.var st.n).smul b.c),(((LT.var st.n).smul b.c).sub a).addc (b.c - 1)]) (by
  intro t ht
  simp only [List.mem_cons,List.not_mem_nil,or_false] at ht
  rcases ht with rfl | rfl | rfl
  ·exact ⟨sv,by rw [qA,q]; exact Int.ediv_nonneg h1 (by omega)⟩
  ·exact ⟨mO sa (oN sv),by rw [jR,uK,qA,q,n1.lt e3,←eb]; show 0≤_ - b.ev ρ*(a.ev ρ / b.ev ρ); omega⟩
  ·exact ⟨vI (mO (oN sv) sa),by rw [jG,jR,uK,qA,q,n1.lt e3,←eb]; show 0≤b.ev ρ*(a.ev ρ / b.ev ρ) - _+(b.ev ρ - 1); omega⟩)
 have n3:=n2.inv.addB (t:=.dv a b.c (.var st.n)) (by simp only [TE.sc,Bool.and_eq_true]; exact ⟨sa,sv⟩) (by show a.ev _ / b.c=(LT.var st.n).ev _; rw [qA,q,n1.lt e3,eb])
 exact ⟨h1,by omega,.var st.n,_,_,(n1.trans n2).trans n3,by rw [qA,q],n1.lt e3,eb.symm,h⟩
theorem qKa {a b:LT} {k:LT→Sx→An} (h:ok (xRm a b st k)) (hi:Inv G ρ st):0≤a.ev ρ∧0<b.ev ρ∧∃ ρ' st',Nx G ρ st ρ' st'∧ρ' st.n=⟨a.ev ρ % b.ev ρ,[],0⟩∧ok (k (.var st.n) st'):=by
 obtain ⟨e,h⟩:=jB h
 simp only [Bool.and_eq_true] at e
 obtain ⟨e1,e2⟩:=e
 obtain ⟨h1,h⟩:=jE h hi
 obtain ⟨h2,h⟩:=jE h hi
 rw [jG] at h2
 obtain ⟨n1,q,h⟩:=zB h hi ⟨a.ev ρ % b.ev ρ,[],0⟩
 have sv:(LT.var st.n).sc (st.n+1)=true:=kA (Nat.lt_succ_self _)
 have sa:a.sc (st.n+1)=true:=jF (Nat.le_succ _) e1
 have sb:b.sc (st.n+1)=true:=jF (Nat.le_succ _) e2
 have d2:=Int.emod_nonneg (a.ev ρ) (b:=b.ev ρ) (by omega)
 have d3:=Int.emod_lt_of_pos (a.ev ρ) (b:=b.ev ρ) (by omega)
 have d4:a.ev ρ % b.ev ρ≤a.ev ρ:=by
  have d1:=Int.mul_ediv_add_emod (a.ev ρ) (b.ev ρ)
  have:=Int.mul_nonneg (a:=b.ev ρ) (b:=a.ev ρ / b.ev ρ) (by omega) (Int.ediv_nonneg h1 (by omega))
  omega
 have n2:=n1.inv.addFs (l:=[.var st.n,(b.sub (.var st.n)).addc (-1),a.sub (.var st.n)]) (by
  intro t ht
  simp only [List.mem_cons,List.not_mem_nil,or_false] at ht
  rcases ht with rfl | rfl | rfl
  ·exact ⟨sv,by rw [qA,q]; exact d2⟩
  ·exact ⟨vI (mO sb sv),by rw [jG,jR,qA,q,n1.lt e2]; show 0≤_ - (a.ev ρ % b.ev ρ) + -1; omega⟩
  ·exact ⟨mO sa sv,by rw [jR,qA,q,n1.lt e1]; show 0≤_ - (a.ev ρ % b.ev ρ); omega⟩)
 exact ⟨h1,by omega,_,_,n1.trans n2,q,h⟩
theorem qMo {o:BinOp} {k:IntKind} {a b:LT} {Q':K1} {Q:P1} (h:ok (xI o k a b st Q')) (hi:Inv G ρ st) (hk:HK G ρ st Q' Q):wI o k (a.ev ρ) (b.ev ρ) Q:=by
 cases o<;>simp only [xI] at h<;>simp only [wI]<;>try exact (jC h).elim
 case add=>have:=pG h hi hk; rwa [zU] at this
 case sub=>have:=pG h hi hk; rwa [jR] at this
 case mul=>
  rcases qT h with ⟨e,h⟩ | ⟨_,h⟩
  ·have:=pG h hi hk; rw [uK,←uM e ρ] at this; exact this
  ·rcases qT h with ⟨e,h⟩ | ⟨_,h⟩
   ·have:=pG h hi hk; rw [uK,←uM e ρ,Int.mul_comm] at this; exact this
   ·exact (jC h).elim
 case quo=>
  obtain ⟨h1,h2,qq,ρ',st',n,q,_,_,h⟩:=qBj h hi
  have:=pG h n.inv (hk.go n)
  rw [q] at this
  exact ⟨⟨h1,h2⟩,this⟩
 case rem=>
  rcases qT h with ⟨_,h⟩ | ⟨_,h⟩
  ·obtain ⟨h1,h2,qq,ρ',st',n,q,ea,eb,h⟩:=qBj h hi
   have:=hk _ _ _ n h
   simp only [SX.den,jR,uK,q,ea,eb] at this
   exact ⟨⟨h1,h2⟩,by rw [Int.emod_def]; exact this⟩
  ·obtain ⟨h1,h2,ρ',st',n,q,h⟩:=qKa h hi
   have:=hk _ _ _ n h
   simp only [SX.den,qA,q] at this
   exact ⟨⟨h1,h2⟩,this⟩
 case and=>exact aL h hi hk
 case or=>exact aL h hi hk
 case eql=>
  obtain ⟨s1,n1,h⟩:=qBx h hi
  rw [jAl (show (a.sub b).ev ρ=0↔a.ev ρ=b.ev ρ by rw [jR]; omega)] at h
  exact jPi (hk _ _ _ n1 h)
 case neq=>
  obtain ⟨s1,n1,h⟩:=qBx h hi
  rw [jAl (show (a.sub b).ev ρ=0↔a.ev ρ=b.ev ρ by rw [jR]; omega)] at h
  exact jTa (hk _ _ _ n1 h)
 case lss=>exact oP (by rw [jG,jR]; omega) h hi hk
 case leq=>exact oP (by rw [jR]; omega) h hi hk
 case gtr=>exact oP (by rw [jG,jR]; omega) h hi hk
 case geq=>exact oP (by rw [jR]; omega) h hi hk
theorem qKb {o:BinOp} {k:IntKind} {a b:LT} {Q':K1} {Q:P1} (h:ok (xSh o k a b st Q')) (hi:Inv G ρ st) (hk:HK G ρ st Q' Q):wSh o k (a.ev ρ) (b.ev ρ) Q:=by
 cases o<;>simp only [xSh] at h<;>simp only [wSh]<;>try exact (jC h).elim
 case shl=>
  obtain ⟨h1,h⟩:=jE h hi
  exact ⟨h1,aL h hi hk⟩
 case shr=>
  obtain ⟨h1,h⟩:=jE h hi
  obtain ⟨h2,h⟩:=sW h hi
  exact ⟨h1,jIk h2,aL h hi hk⟩
theorem oK {n v:Nat} (h:v<256^n):n=0→v=0:=by intro e; subst e; simpa using h
theorem jTv {n v m u:LT} {k:Bool→Sx→An} (h:ok (qFi n v m u st k)) (hi:Inv G ρ st) (h0:(n.ev ρ).toNat=0→(v.ev ρ).toNat=0) (h1:(m.ev ρ).toNat=0→(u.ev ρ).toNat=0) :
  ∃ st',Nx G ρ st ρ st'∧ok (k (decide ((n.ev ρ).toNat=(m.ev ρ).toNat∧(v.ev ρ).toNat=(u.ev ρ).toNat)) st'):=by
 unfold qFi at h
 rcases qT h with ⟨e,h⟩ | ⟨_,h⟩
 ·rw [Bool.and_eq_true] at e
  rw [LT.beq_ok e.1,LT.beq_ok e.2,decide_eq_true ⟨rfl,rfl⟩]
  exact ⟨st,Nx.refl hi,h⟩
 rcases qT h with ⟨e,h⟩ | ⟨_,h⟩
 ·simp only [Bool.and_eq_true] at e
  obtain ⟨⟨e1,e2,e3,e4⟩,⟨e5,e6⟩,e7,e8⟩:=e
  rw [uM e1,uM e2,uM e3,uM e4]
  have q5:=bU e5; have q6:=bU e6; have q7:=bU e7; have q8:=bU e8
  refine ⟨st,Nx.refl hi,?_⟩
  have:(eqI n.c m.c&&eqI v.c u.c)=decide (n.c.toNat=m.c.toNat∧v.c.toNat=u.c.toNat):=by
   rw [rS,rS]
   by_cases a:n.c=m.c<;>by_cases b:v.c=u.c<;>simp [a,b]<;>omega
  rw [←this]; exact h
 obtain ⟨hn,h⟩:=jE h hi
 obtain ⟨hm,h⟩:=jE h hi
 obtain ⟨ha,hb⟩:=qW h
 by_cases q:(n.ev ρ).toNat=(m.ev ρ).toNat∧(v.ev ρ).toNat=(u.ev ρ).toNat
 ·rw [decide_eq_true q]
  obtain ⟨s1,n1,ha⟩:=qD ha hi (by rw [jR]; omega)
  obtain ⟨s2,n2,ha⟩:=qD ha n1.inv (by rw [jR]; omega)
  exact ⟨s2,n1.trans n2,ha⟩
 ·rw [decide_eq_false q]
  rcases qT hb with ⟨e,hb⟩ | ⟨_,hb⟩
  ·rw [Bool.and_eq_true,vC,decide_eq_true_eq] at e
   have em:m.ev ρ=0:=by rw [uM e.1,e.2]
   refine qD hb hi ?_
   rw [jG]
   by_cases z:(n.ev ρ).toNat=0
   ·exact absurd ⟨by rw [z,em]; rfl,by rw [h0 z,h1 (by rw [em]; rfl)]⟩ q
   ·omega
  rcases qT hb with ⟨e,hb⟩ | ⟨_,hb⟩
  ·rw [Bool.and_eq_true,vC,decide_eq_true_eq] at e
   have en:n.ev ρ=0:=by rw [uM e.1,e.2]
   refine qD hb hi ?_
   rw [jG]
   by_cases z:(m.ev ρ).toNat=0
   ·exact absurd ⟨by rw [z,en]; rfl,by rw [h1 z,h0 (by rw [en]; rfl)]⟩ q
   ·omega
  ·exact ⟨st,Nx.refl hi,hb⟩
theorem qMs {o:BinOp} {n v m u:LT} {Q':K1} {Q:P1} (h:ok (xS o n v m u st Q')) (hi:Inv G ρ st) (hn':n.sc st.n=true) (hm':m.sc st.n=true) (hk:HK G ρ st Q' Q):wS o (n.ev ρ).toNat (v.ev ρ).toNat (m.ev ρ).toNat (u.ev ρ).toNat Q:=by
 cases o<;>simp only [xS] at h<;>simp only [wS]<;>try exact (jC h).elim
 case add=>
  obtain ⟨hn,h⟩:=jE h hi
  obtain ⟨hm,h⟩:=jE h hi
  obtain ⟨hl,h⟩:=jE h hi
  rw [jG,qN,zU] at hl
  have hb:qFl=1000000000000:=rfl
  refine ⟨by omega,fun _ _=>?_⟩
  obtain ⟨n1,e,h⟩:=zB h hi ⟨(((v.ev ρ).toNat+(u.ev ρ).toNat*256^(n.ev ρ).toNat:Nat):Int),[],0⟩
  have:=hk _ _ _ n1 h
  simp only [SX.den,qA,e,zU,n1.lt hn',n1.lt hm'] at this
  rw [show (n.ev ρ+m.ev ρ).toNat=(n.ev ρ).toNat+(m.ev ρ).toNat by omega] at this
  simpa only [Int.toNat_natCast] using this
 case eql=>
  intro h0 h1
  obtain ⟨s1,n1,h⟩:=jTv h hi (oK h0) (oK h1)
  exact jPi (hk _ _ _ n1 h)
 case neq=>
  intro h0 h1
  obtain ⟨s1,n1,h⟩:=jTv h hi (oK h0) (oK h1)
  exact jTa (hk _ _ _ n1 h)
theorem qJk {o:BinOp} {x y:SX} {Q':K1} {Q:P1} (h:ok (xBi o x y st Q')) (hi:Inv G ρ st) (hx:x.sc st.n=true) (hy:y.sc st.n=true) (hk:HK G ρ st Q' Q):wBi o (x.den ρ) (y.den ρ) Q:=by
 unfold xBi at h
 split at h
 ·simp only [SX.den,wBi]
  rcases qT h with ⟨e,h⟩ | ⟨e,h⟩
  ·rw [e]; exact qKb h hi hk
  ·rw [e]
   obtain ⟨h1,h⟩:=jB h
   simp only [brn,h1,req]
   exact qMo h hi hk
 ·simp only [SX.sc,Bool.and_eq_true] at hx hy
  simp only [SX.den,wBi]
  exact qMs h hi hx.1 hy.1 hk
 ·exact (jC h).elim
theorem qKf {o:UnOp} {x:SX} {Q':K1} {Q:P1} (h:ok (xUn o x st Q')) (hi:Inv G ρ st) (hk:HK G ρ st Q' Q):wUn o (x.den ρ) Q:=by
 unfold xUn at h
 split at h
 ·rename_i b
  have:=hk.now hi h
  simp only [SX.den,wUn] at this ⊢
  cases b<;>exact this
 ·rename_i t
  have:=hk.now hi h
  simp only [SX.den,wUn,jG,qN] at this ⊢
  by_cases q:0<t.ev ρ
  ·rw [decide_eq_true q]; rw [decide_eq_false (by omega)] at this; exact this
  ·rw [decide_eq_false q]; rw [decide_eq_true (by omega)] at this; exact this
 ·have:=pG h hi hk
  simp only [SX.den,wUn]
  rw [qN] at this
  rw [show ∀ a:Int,0 - a = -a by intro a; omega]; exact this
 ·exact (jC h).elim
theorem aM {v:SX} {k:Bool→Sx→An} (h:ok (jGp v st k)) (hi:Inv G ρ st):∃ b st',v.den ρ = .b b∧Nx G ρ st ρ st'∧ok (k b st'):=by
 unfold jGp at h
 split at h
 ·exact ⟨_,st,rfl,Nx.refl hi,h⟩
 ·rename_i t
  obtain ⟨s1,n1,h⟩:=iU h hi
  refine ⟨_,s1,?_,n1,h⟩
  simp only [SX.den]
  rw [jAl (show 0<t.ev ρ↔0≤(t.addc (-1)).ev ρ by rw [jG]; omega)]
 ·exact (jC h).elim
theorem qBl {c a b:SX} {Q':K1} {Q:P1} (h:ok (xT c a b st Q')) (hi:Inv G ρ st) (hk:HK G ρ st Q' Q):jTp (c.den ρ) (a.den ρ) (b.den ρ) Q:=by
 obtain ⟨x,s1,e,n1,h⟩:=aM h hi
 have:=hk _ _ _ n1 h
 rw [e]
 cases x<;>exact this
theorem qJj {g:Bool} {x y:SX} {Q':K1} {Q:P1} (h:ok (xBe g x y st Q')) (hi:Inv G ρ st) (hk:HK G ρ st Q' Q):wBe g (x.den ρ) (y.den ρ) Q:=by
 obtain ⟨a,s1,e1,n1,h⟩:=aM h hi
 obtain ⟨b,s2,e2,n2,h⟩:=aM h n1.inv
 have:=hk _ _ _ (n1.trans n2) h
 rw [e1,e2]
 cases g<;>exact this
theorem gK {v k b:LT}:∀ {B:List TE},sD v k B=some b→(.by_ v k b:TE)∈B
 | [],h=>by cases h
 | t::r,h=>by
  simp only [sD] at h
  split at h
  ·rename_i c i b'
   cases q:(c.beq v&&i.beq k) with
   | true=>
    rw [q] at h
    simp at h
    subst h
    rw [Bool.and_eq_true] at q
    rw [←LT.beq_ok q.1,←LT.beq_ok q.2]
    exact List.mem_cons_self ..
   | false=>rw [q] at h; exact List.mem_cons_of_mem _ (gK h)
  ·exact List.mem_cons_of_mem _ (gK h)
theorem jJw (v k:Int):jQi v k=byZ v.toNat k:=by unfold jQi byZ; rfl
theorem qJt {x i:SX} {Q':K1} {Q:P1} (h:ok (xIx x i st Q')) (hi:Inv G ρ st) (hx:x.sc st.n=true) (hy:i.sc st.n=true) (hk:HK G ρ st Q' Q):wIx (x.den ρ) (i.den ρ) Q:=by
 unfold xIx at h
 split at h
 ·rename_i n v _ k
  obtain ⟨h1,h⟩:=jE h hi
  obtain ⟨h2,h⟩:=jE h hi
  rw [jG,jR] at h2
  simp only [SX.den,wIx]
  refine ⟨⟨h1,by omega⟩,fun b0 b1=>?_⟩
  rcases qT h with ⟨e,h⟩ | ⟨_,h⟩
  ·rw [Bool.and_eq_true] at e
   have:=hk.now hi h
   simp only [SX.den,qH,jJw] at this
   rw [uM e.1,uM e.2]; exact this
  ·split at h
   ·rename_i b e
    have hB:=hi.B _ (gK e)
    have:=hk.now hi h
    simp only [SX.den,←show byZ (v.ev ρ).toNat (k.ev ρ)=b.ev ρ from hB] at this
    exact this
   ·obtain ⟨e,h⟩:=jB h
    rw [Bool.and_eq_true] at e
    obtain ⟨n1,q,h⟩:=zB h hi ⟨byZ (v.ev ρ).toNat (k.ev ρ),[],0⟩
    have sv:(LT.var st.n).sc (st.n+1)=true:=kA (Nat.lt_succ_self _)
    have n2:=n1.inv.addFs (l:=[.var st.n,(LT.var st.n).neg.addc 255]) (by
     intro t ht
     simp only [List.mem_cons,List.not_mem_nil,or_false] at ht
     rcases ht with rfl | rfl
     ·exact ⟨sv,by rw [qA,q]; exact b0⟩
     ·exact ⟨vI (iM sv),by rw [jG,qN,qA,q]; show 0 ≤ -byZ _ _+255; omega⟩)
    have n3:=n2.inv.addB (t:=.by_ v k (.var st.n)) (by
     simp only [TE.sc,Bool.and_eq_true]
     exact ⟨jF (Nat.le_trans n1.n n2.n) e.1,jF (Nat.le_trans n1.n n2.n) e.2,jF n2.n sv⟩) (by
     simp only [TE.holds,n1.lt e.1,n1.lt e.2,qA,q])
    have:=hk _ _ _ ((n1.trans n2).trans n3) h
    simp only [SX.den,qA,q] at this
    exact this
 ·exact (jC h).elim
theorem jUb {x:SX} {Q':LT→An} {Q:Int→Prop} (h:ok (qBy x st Q')) (hx:x.sc st.n=true) (hk:∀ a,a.sc st.n=true→ok (Q' a)→Q (a.ev ρ)):iOf (x.den ρ) Q:=by
 unfold qBy at h
 split at h
 ·exact hk _ hx h
 ·exact (jC h).elim
theorem uI {x:Option X} {d:LT} {z:Int} {Q':LT→An} {Q:Int→Prop} (h:ok (mW st x d Q')) (hi:Inv G ρ st) (hd:d.sc st.n=true) (hz:z=d.ev ρ) (hk:∀ a,a.sc st.n=true→ok (Q' a)→Q (a.ev ρ)):lS (denE ρ st.E) x z Q:=by
 cases x with
 | some x=>exact qY (k:=fun v=>qBy v st Q') (P:=fun v=>iOf v Q) h hi fun v hv h=>jUb h hv hk
 | none=>subst hz; exact hk _ hd h
theorem qJv {x:SX} {Q':K1} {Q:P1} (h:ok (xLn x st Q')) (hi:Inv G ρ st) (hk:HK G ρ st Q' Q):wLn (x.den ρ) Q:=by
 unfold xLn at h
 split at h
 ·obtain ⟨hn,h⟩:=jE h hi
  have:=hk.now hi h
  simp only [SX.den,wLn] at this ⊢
  rw [Int.toNat_of_nonneg hn]; exact this
 ·exact (jC h).elim
theorem qJy {x y:SX} {Q':K1} {Q:P1} (h:ok (xMx x y st Q')) (hi:Inv G ρ st) (hk:HK G ρ st Q' Q):wMx (x.den ρ) (y.den ρ) Q:=by
 unfold xMx at h
 split at h
 ·rename_i k a k' b
  obtain ⟨h1,h⟩:=jB h
  obtain ⟨s1,n1,h⟩:=iU h hi
  have:=hk _ _ _ n1 h
  simp only [SX.den,wMx,h1,req]
  by_cases q:0≤(b.sub a).ev ρ
  ·rw [decide_eq_true q] at this
   rw [jR] at q
   rw [Int.max_eq_right (by omega)]; exact this
  ·rw [decide_eq_false q] at this
   rw [jR] at q
   rw [Int.max_eq_left (by omega)]; exact this
 ·exact (jC h).elim
theorem qJw {x y:SX} {Q':K1} {Q:P1} (h:ok (xMn x y st Q')) (hi:Inv G ρ st) (hk:HK G ρ st Q' Q):wMn (x.den ρ) (y.den ρ) Q:=by
 unfold xMn at h
 split at h
 ·rename_i k a k' b
  obtain ⟨h1,h⟩:=jB h
  obtain ⟨s1,n1,h⟩:=iU h hi
  have:=hk _ _ _ n1 h
  simp only [SX.den,wMn,h1,req]
  by_cases q:0≤(b.sub a).ev ρ
  ·rw [decide_eq_true q] at this
   rw [jR] at q
   rw [Int.min_eq_left (by omega)]; exact this
  ·rw [decide_eq_false q] at this
   rw [jR] at q
   rw [Int.min_eq_right (by omega)]; exact this
 ·exact (jC h).elim
theorem qJm {k:IntKind} {x:SX} {Q':K1} {Q:P1} (h:ok (xCi k x st Q')) (hi:Inv G ρ st) (hk:HK G ρ st Q' Q):wCi k (x.den ρ) Q:=by
 unfold xCi at h
 split at h
 ·rename_i k0 n
  simp only [SX.den,wCi]
  obtain ⟨j,a,hj,ha,h⟩:=mL h
  split at h
  ·simp at hj; subst hj
   obtain ⟨h1,_⟩:=sW ha hi
   obtain ⟨h2,h⟩:=jB h
   simp only [h2,req]
   intro m _ hm
   rw [hm (jIk h1)]
   exact hk.now hi h
  ·have:=aL h hi hk
   unfold jJp at this
   obtain ⟨h1,h2⟩:=jI this
   simp only [h1,req]
   exact fun m hm _=>h2 m hm
 ·exact (jC h).elim
theorem zR:∀ (l:List SX),jQ ρ l=l.map (SX.den ρ)
 | []=>rfl
 | x::l=>by simp only [jQ,List.map_cons,zR l]
theorem qJq {n:Nat} {x:SX} {Q':K1} {Q:P1} (h:ok (xEx n x st Q')) (hi:Inv G ρ st) (hk:HK G ρ st Q' Q):wEx n (x.den ρ) Q:=by
 unfold xEx at h
 split at h
 ·rename_i l
  simp only [SX.den,wEx]
  rw [jX] at h
  rw [jX,zR,List.getElem?_map]
  split at h
  ·rename_i v e
   rw [e]
   exact hk.now hi h
  ·exact (jC h).elim
 ·exact (jC h).elim
theorem nP (hi:Inv G ρ st):∀ {l:List LT} {k:An},ok (jKw st l k)→(∀ t,t∈l→t.ev ρ≠0)∧ok k
 | [],k,h=>⟨fun t ht=>(by cases ht),h⟩
 | d::r,k,h=>by
  have one:∀ {a:An},d.ev ρ≠0→ok a→(ok a→(∀ t,t∈r→t.ev ρ≠0)∧ok k)→(∀ t,t∈d::r→t.ev ρ≠0)∧ok k:=fun h1 h2 h3=>by
   obtain ⟨h4,h5⟩:=h3 h2
   exact ⟨fun t ht=>by rcases List.mem_cons.1 ht with rfl | ht; exact h1; exact h4 t ht,h5⟩
  simp only [jKw] at h
  split at h
  ·rename_i e
   obtain ⟨h1,h⟩:=jB h
   refine one ?_ h (fun h=>nP hi h)
   rw [vC] at h1
   simp only [LT.ev,e,evL]
   simp at h1
   omega
  ·rcases qT h with ⟨h1,h⟩ | ⟨_,h⟩
   ·exact one (jOl h1 hi.N) h (fun h=>nP hi h)
   ·obtain ⟨j,a,hj,ha,h⟩:=mL h
    refine one ?_ h (fun h=>nP hi h)
    match j,hj with
    | 0,hj=>
     simp at hj; subst hj
     obtain ⟨h1,_⟩:=jE ha hi
     rw [jG] at h1; omega
    | 1,hj=>
     simp at hj; subst hj
     obtain ⟨h1,_⟩:=jE ha hi
     rw [jG,qN] at h1; omega
    | j+2,hj=>simp at hj
theorem jZh {v:Int}:∀ {n:Nat} {k:Int},nlC v n k=true→∀ i:Int,k≤i→i<k+n→byZ v.toNat i≠10
 | 0,k,_,i,h1,h2=>by omega
 | n+1,k,h,i,h1,h2=>by
  simp only [nlC,Bool.and_eq_true] at h
  by_cases e:i=k
  ·subst e
   have:=h.1
   rw [vC,jJw] at this
   simp at this
   omega
  ·exact jZh h.2 i (by omega) (by omega)
theorem kT (hi:Inv G ρ st) {g c b:LT}:∀ {f:Nat} {a:LT} {k:An},ok (tN st g c b f a k)→(TE.ng g c a b).holds G ρ∧ok k
 | 0,a,k,h=>(jC h).elim
 | f+1,a,k,h=>by
  unfold tN at h
  obtain ⟨x,h⟩:=dD h
  rcases qT h with ⟨_,h⟩ | ⟨_,h⟩
  ·obtain ⟨h1,h⟩:=jE h hi
   rw [jR] at h1
   exact ⟨fun _ k k0 k1=>by omega,h⟩
  rcases qT h with ⟨_,h⟩ | ⟨_,h⟩
  ·obtain ⟨h1,h⟩:=jE h hi
   rw [jG] at h1
   exact ⟨fun hg=>by omega,h⟩
  rcases qT h with ⟨_,h⟩ | ⟨_,h⟩
  ·obtain ⟨h1,h⟩:=jE h hi
   rw [jG,qN] at h1
   exact ⟨fun hg=>by omega,h⟩
  rcases qT h with ⟨_,h⟩ | ⟨_,h⟩
  ·obtain ⟨h1,h⟩:=jB h
   simp only [Bool.and_eq_true] at h1
   obtain ⟨e1,e2,e3,e4⟩:=h1
   refine ⟨fun _ k k0 k1=>?_,h⟩
   rw [uM e2] at k0
   rw [uM e3] at k1
   rw [uM e1]
   exact jZh e4 k k0 (by omega)
  split at h
  ·rename_i g' c' a' m e
   obtain ⟨h1,h⟩:=jB h
   rw [Bool.and_eq_true] at h1
   obtain ⟨h2,h⟩:=jE h hi
   rw [jR] at h2
   obtain ⟨h3,h⟩:=kT hi h
   refine ⟨fun hg k k0 k1=>?_,h⟩
   have hB:=hi.B _ (List.mem_of_getElem? (by rw [←jX]; exact e))
   have hg':g'.ev ρ=2:=by
    rcases Bool.or_eq_true_iff.1 h1.2 with q | q
    ·rw [LT.beq_ok q]; exact hg
    ·rw [LT.beq_ok q,qH]
   by_cases q:k<m.ev ρ
   ·have:=hB hg' k (by omega) q
    rw [LT.beq_ok h1.1]; exact this
   ·exact h3 hg k (by omega) k1
  ·rename_i c' i x e
   obtain ⟨h1,h⟩:=jB h
   obtain ⟨h2,h⟩:=qJ h hi
   obtain ⟨h3,h⟩:=nP hi h
   obtain ⟨h4,h⟩:=kT hi h
   refine ⟨fun hg k k0 k1=>?_,h⟩
   have hB:=hi.B _ (List.mem_of_getElem? (by rw [←jX]; exact e))
   by_cases q:k=a.ev ρ
   ·have h5:=h3 _ (List.mem_cons_self ..)
    rw [jG] at h5
    have h6:byZ (c'.ev ρ).toNat (i.ev ρ)=x.ev ρ:=hB
    rw [LT.beq_ok h1,q,h2,h6]
    omega
   ·exact h4 hg k (by rw [jG]; omega) k1
  ·exact (jC h).elim
theorem jZg {n c:LT} (h:∀ k:Int,(LT.con 0).ev ρ≤k→k<n.ev ρ→byZ (c.ev ρ).toNat k≠10):nlP (n.ev ρ).toNat (c.ev ρ).toNat:=by
 intro k hk e
 have:=h (k:Int) (by rw [qH]; omega) (by omega)
 unfold byZ at this
 rw [Int.toNat_natCast,e] at this
 exact this rfl
theorem qKr {x:SX} {n v:Nat} (h:x.den ρ = .s n v):∃ a b,x = .s a b∧n=(a.ev ρ).toNat∧v=(b.ev ρ).toNat:=by
 cases x with
 | s a b=>simp only [SX.den,SV.s.injEq] at h; exact ⟨a,b,rfl,h.1.symm,h.2.symm⟩
 | _=>simp [SX.den] at h
theorem qKq {x:SX} {k:IntKind} {z:Int} (h:x.den ρ = .i k z):∃ t,x = .i k t∧z=t.ev ρ:=by
 cases x with
 | i k' t=>simp only [SX.den,SV.i.injEq] at h; exact ⟨t,by rw [h.1],h.2.symm⟩
 | _=>simp [SX.den] at h
theorem jDu (hi:Inv G ρ st) {r:List SX}:∀ {l:List (Nat×Option Nat)} {k:An},ok (xRk st r l k)→rsK l (jQ ρ r)∧ok k
 | [],k,h=>⟨fun p hp=>(by cases hp),h⟩
 | p::l,k,h=>by
  have get:∀ {i:Nat} {x:SV},(jQ ρ r)[i]?=some x→∃ y,zA r i=some y∧y.den ρ=x:=fun {i x} e=>by
   rw [zR,List.getElem?_map,Option.map_eq_some_iff] at e
   obtain ⟨y,e1,e2⟩:=e
   exact ⟨y,by rw [jX]; exact e1,e2⟩
  have cons:∀ {Pr:Prop},(Pr→∀ n v,(jQ ρ r)[p.1]?=some (.s n v)→nlP n v)→((match p.2 with | none=>True | some g=>∃ k,(jQ ρ r)[g]?=some (.i k 2))→Pr)→rsK l (jQ ρ r)→rsK (p::l) (jQ ρ r):=fun h1 h2 h3 q hq hg=>by
   rcases List.mem_cons.1 hq with rfl | hq
   ·exact h1 (h2 hg)
   ·exact h3 q hq hg
  unfold xRk at h
  split at h
  ·rename_i n c e
   split at h
   ·rename_i e2
    obtain ⟨h1,h⟩:=kT hi h
    obtain ⟨h2,h⟩:=jDu hi h
    refine ⟨cons (Pr:=True) (fun _ n' v' e3=>?_) (fun _=>trivial) h2,h⟩
    obtain ⟨y,y1,y2⟩:=get e3
    rw [e] at y1; cases y1
    simp only [SX.den,SV.s.injEq] at y2
    rw [←y2.1,←y2.2]
    exact jZg (h1 (by rw [qH]))
   ·rename_i g e2
    split at h
    ·rename_i kk t e4
     obtain ⟨h1,h⟩:=kT hi h
     obtain ⟨h2,h⟩:=jDu hi h
     refine ⟨cons (Pr:=t.ev ρ=2) (fun ht n' v' e3=>?_) (fun hg=>?_) h2,h⟩
     ·obtain ⟨y,y1,y2⟩:=get e3
      rw [e] at y1; cases y1
      simp only [SX.den,SV.s.injEq] at y2
      rw [←y2.1,←y2.2]
      exact jZg (h1 ht)
     ·rw [e2] at hg
      obtain ⟨k2,hg⟩:=hg
      obtain ⟨y,y1,y2⟩:=get hg
      rw [e4] at y1; cases y1
      simp only [SX.den,SV.i.injEq] at y2
      exact y2.2
    ·rename_i hno
     obtain ⟨h2,h⟩:=jDu hi h
     refine ⟨cons (Pr:=False) (fun q=>q.elim) (fun hg=>?_) h2,h⟩
     rw [e2] at hg
     obtain ⟨k2,hg⟩:=hg
     obtain ⟨y,y1,y2⟩:=get hg
     obtain ⟨t,rfl,_⟩:=qKq y2
     exact hno _ _ y1
  ·rename_i hno
   obtain ⟨h2,h⟩:=jDu hi h
   refine ⟨cons (Pr:=True) (fun _ n' v' e3=>?_) (fun _=>trivial) h2,h⟩
   obtain ⟨y,y1,y2⟩:=get e3
   obtain ⟨a,b,rfl,_⟩:=qKr y2
   exact (hno _ _ y1).elim
theorem gZ (hi:Inv G ρ st):∀ {l:List SX} {k:An},ok (sQ st l k)→jLq (jQ ρ l)∧ok k
 | [],k,h=>⟨trivial,h⟩
 | x::r,k,h=>by
  unfold sQ at h
  split at h
  ·rename_i kk t
   obtain ⟨h1,h⟩:=nP hi h
   obtain ⟨h2,h⟩:=gZ hi h
   have:=h1 _ (List.mem_cons_self ..)
   rw [jG] at this
   exact ⟨⟨by show t.ev ρ≠2; omega,h2⟩,h⟩
  ·rename_i n c
   obtain ⟨h1,h⟩:=kT hi h
   obtain ⟨h2,h⟩:=gZ hi h
   exact ⟨⟨jZg (h1 (by rw [qH])),h2⟩,h⟩
  ·rename_i h1 h2
   obtain ⟨h3,h⟩:=gZ hi h
   refine ⟨⟨?_,h3⟩,h⟩
   cases x with
   | i k t=>exact absurd rfl (h1 k t)
   | s n c=>exact absurd rfl (h2 n c)
   | _=>trivial
theorem qKd {x:SX} {lo hi':Option X} {Q':K1} {Q:P1} (h:ok (xSs x lo hi' st Q')) (hi:Inv G ρ st) (hx:x.sc st.n=true) (hk:HK G ρ st Q' Q):wSs (x.den ρ) lo hi' (denE ρ st.E) Q:=by
 unfold xSs at h
 split at h
 ·rename_i n v
  simp only [SX.sc,Bool.and_eq_true] at hx
  obtain ⟨hn,h⟩:=jE h hi
  simp only [SX.den,wSs]
  refine uI h hi (zQ _) (by rw [qH]) fun a ha h=>?_
  refine uI h hi hx.1 (by omega) fun b hb h=>?_
  obtain ⟨h1,h⟩:=jE h hi
  obtain ⟨h2,h⟩:=jE h hi
  obtain ⟨h3,h⟩:=jE h hi
  rw [jR] at h2 h3
  refine ⟨⟨h1,by omega,by omega⟩,fun m w hm _ hbs=>?_⟩
  obtain ⟨xx,h⟩:=dD h
  rcases qT h with ⟨_,h⟩ | ⟨_,h⟩
  ·obtain ⟨n1,e,h⟩:=zB h hi ⟨(w:Int),[],0⟩
   have:=hk _ _ _ n1 h
   simp only [SX.den,qA,e,jR,n1.lt ha,n1.lt hb] at this
   rw [show (b.ev ρ - a.ev ρ).toNat=m by omega] at this
   exact this
  ·obtain ⟨hB,h⟩:=kT hi h
   obtain ⟨n1,e,h⟩:=zB h hi ⟨(w:Int),[],0⟩
   have n2:=n1.inv.addB (t:=.ng (.con 2) (.var st.n) (.con 0) (b.sub a)) (by
    simp only [TE.sc,Bool.and_eq_true]
    exact ⟨zQ _,kA (Nat.lt_succ_self _),zQ _,jF n1.n (mO hb ha)⟩) (by
    intro _ k k0 k1
    rw [qH] at k0
    rw [jR,n1.lt ha,n1.lt hb] at k1
    have h4:=hB (by rw [qH]) (a.ev ρ+k) (by omega) (by omega)
    have h5:=hbs k.toNat (by omega)
    have h6:(a.ev ρ+k).toNat=(a.ev ρ).toNat+k.toNat:=by omega
    unfold byZ at h4 ⊢
    rw [h6,←h5] at h4
    simpa only [qA,e,Int.toNat_natCast] using h4)
   have:=hk _ _ _ (n1.trans n2) h
   simp only [SX.den,qA,e,jR,n1.lt ha,n1.lt hb] at this
   rw [show (b.ev ρ - a.ev ρ).toNat=m by omega] at this
   exact this
 ·exact (jC h).elim
end
end
end Go.Proofs.YtngfdcnglojcaaaGreatDoor.Ev.Rf
end
section
set_option linter.all false
namespace Go.Proofs.YtngfdcnglojcaaaGreatDoor.Ev.Rf
noncomputable section
open Go
section
variable {α β:Type}
theorem gW (f:α→β):∀ (n:Nat) (l:List α),zL n (l.map f)=(zL n l).map (List.map f)
 | 0,l=>rfl
 | n+1,[]=>rfl
 | n+1,a::l=>by
  simp only [List.map_cons,zL,gW f n l]
  cases zL n l<;>rfl
theorem gF (f:α→β) (n:Nat) (l:List α):zI n (l.map f)=(zI n l).map f:=by rw [qP,qP,List.map_drop]
theorem jMa (f:α→β):∀ (v l:List α),lT (v.map f) (l.map f)=(lT v l).map (List.map f)
 | [],l=>rfl
 | v::vs,[]=>rfl
 | v::vs,a::l=>by
  simp only [List.map_cons,lT,jMa f vs l]
  cases lT vs l<;>rfl
theorem jFt (f:α→β):∀ (n:Nat) (v l:List α),zY n (v.map f) (l.map f)=(zY n v l).map (List.map f)
 | 0,v,l=>by simp only [zY]; exact jMa f v l
 | n+1,v,[]=>rfl
 | n+1,v,a::l=>by
  simp only [List.map_cons,zY,jFt f n v l]
  cases zY n v l<;>rfl
theorem jCw (f:α→β):∀ (l:List α) (i:Nat) (x:α),jH (l.map f) i (f x)=(jH l i x).map f
 | [],_,_=>rfl
 | a::l,0,x=>rfl
 | a::l,i+1,x=>by simp only [List.map_cons,jH,jCw f l i x]
theorem jGc (f:α→β):∀ (n:Nat) (l:List α),zD n (l.map f)=zD n l
 | 0,[]=>rfl
 | 0,_::_=>rfl
 | n+1,[]=>rfl
 | n+1,a::l=>by simp only [List.map_cons,zD,jGc f n l]
theorem jBp (f:α→β) (l:List α):jP (l.map f)=jP l:=by rw [qC,qC,List.length_map]
end
section
variable {P:PX} {G:Nat→List SV→SV→Prop} {ρ ρ' ρ2:Rho} {st st' st2:Sx}
theorem sN {n:Nat} {l r:List SX} (h:zL n l=some r):zL n (jQ ρ l)=some (jQ ρ r):=by rw [zR,gW,h,zR]; rfl
theorem rR {n:Nat} {l:List SX}:zI n (jQ ρ l)=jQ ρ (zI n l):=by rw [zR,gF,zR]
theorem jCj {n:Nat} {v l r:List SX} (h:zY n v l=some r):zY n (jQ ρ v) (jQ ρ l)=some (jQ ρ r):=by rw [zR,zR,jFt,h,zR]; rfl
theorem dG {n:Nat} {l:List SX}:zD n (jQ ρ l)=zD n l:=by rw [zR,jGc]
theorem mI {n:Nat} {l:List SX} {v:SX} (h:zA l n=some v):zA (jQ ρ l) n=some (v.den ρ):=by
 rw [jX] at *; rw [zR,List.getElem?_map,h]; rfl
theorem aS (x:SX):xA (x.den ρ)=jQ ρ (yU x):=by cases x<;>rfl
theorem qEf (x:SX):jIg (x.den ρ)=qLr x:=by cases x<;>rfl
theorem mM:∀ (l:List SX),qB (jQ ρ l)=fG l
 | []=>rfl
 | x::l=>by simp only [jQ,qB,fG,qEf,mM l]
theorem gE {H:List HX} {i:Nat} {hb:HX} (h:zA H i=some hb):zA (denH ρ H) i=some (hb.den ρ):=by
 rw [jX] at *; rw [denH,List.getElem?_map,h]; rfl
theorem eA {H:List HX} {i:Nat} (h:zA H i=none):zA (denH ρ H) i=none:=by
 rw [jX] at *; rw [denH,List.getElem?_map,h]; rfl
theorem yA {H:List HX} {i:Nat} {hb:HX}:jH (denH ρ H) i (hb.den ρ)=denH ρ (jH H i hb):=jCw _ _ _ _
theorem tE {H K:List HX}:denH ρ (H++K)=denH ρ H++denH ρ K:=List.map_append ..
theorem uZ (H:List HX):jP (denH ρ H)=jP H:=jBp _ _
theorem Gn.beq_ok {g h:Gn} (k:g.beq h=true):g=h:=by
 simp only [Gn.beq,Bool.and_eq_true] at k
 obtain ⟨a,b⟩:=g
 obtain ⟨c,d⟩:=h
 have e1:=Nat.eq_of_beq_eq_true k.1
 have e2:=Nat.eq_of_beq_eq_true k.2
 dsimp only at e1 e2
 subst e1; subst e2; rfl
theorem Gn.up_den (g:Gn):g.up.den ρ=Nat.succ (g.den ρ):=by obtain ⟨v,o⟩:=g; cases v<;>simp [Gn.up,Gn.den]<;>omega
theorem Gn.up_sc {n:Nat} {g:Gn} (h:g.sc n=true):g.up.sc n=true:=h
@[simp] theorem fU:g0.den ρ=0:=rfl
theorem jFa (n:Nat):g0.sc n=true:=Nat.ble_eq_true_of_le (Nat.zero_le _)
theorem jLi (n:Nat):Nat.beq n n=true:=by simp
theorem kG {H:List HX} {i:Nat} {g:Gn} {hb:HX} (h:hbX H i g=some hb):zA H i=some hb∧hb.g=g:=by
 unfold hbX at h
 split at h
 ·rename_i hb' e
  cases q:hb'.g.beq g with
  | true=>rw [q] at h; simp at h; subst h; exact ⟨e,Gn.beq_ok q⟩
  | false=>rw [q] at h; simp at h
 ·cases h
theorem yJ {H:List HX} {i:Nat} {g:Gn} {hb:HX} (h:hbX H i g=some hb) {Q:HB→Prop} (hq:Q (hb.den ρ)):vA (denH ρ H) i (g.den ρ) Q:=by
 obtain ⟨h1,h2⟩:=kG h
 unfold vA
 rw [gE h1]
 show req (Nat.beq (hb.g.den ρ) (g.den ρ)) _
 rw [h2,jLi]; exact hq
theorem vH {n:Nat}:∀ {H:List HX} {i:Nat} {hb:HX},scH n H=true→zA H i=some hb→hb.g.sc n=true∧hb.c.sc n=true
 | [],i,hb,h,e=>by cases i<;>cases e
 | a::l,0,hb,h,e=>by simp only [scH,Bool.and_eq_true] at h; cases e; exact ⟨h.1,h.2.1⟩
 | a::l,i+1,hb,h,e=>by simp only [scH,Bool.and_eq_true] at h; exact vH h.2.2 e
theorem yS {n:Nat} {hb:HX} (hg:hb.g.sc n=true) (hc:hb.c.sc n=true):∀ {H:List HX} {i:Nat},scH n H=true→scH n (jH H i hb)=true
 | [],i,h=>h
 | a::l,0,h=>by simp only [scH,jH,Bool.and_eq_true] at h ⊢; exact ⟨hg,hc,h.2.2⟩
 | a::l,i+1,h=>by simp only [scH,jH,Bool.and_eq_true] at h ⊢; exact ⟨h.1,h.2.1,yS hg hc h.2.2⟩
theorem oM {n:Nat} {hb:HX} (hg:hb.g.sc n=true) (hc:hb.c.sc n=true):∀ {H:List HX},scH n H=true→scH n (H++[hb])=true
 | [],h=>by simp only [List.nil_append,scH,Bool.and_eq_true]; exact ⟨hg,hc,trivial⟩
 | a::l,h=>by simp only [List.cons_append,scH,Bool.and_eq_true] at h ⊢; exact ⟨h.1,h.2.1,oM hg hc h.2.2⟩
theorem jSy {n:Nat} {l:List SX} {i:Nat} {v:SX} (h:scs n l=true) (e:zA l i=some v):v.sc n=true:=by
 rw [jX] at e; exact nY.1 h v (List.mem_of_getElem? e)
theorem Inv.setH (h:Inv G ρ st) {H:List HX} (hs:scH st.n H=true):Inv G ρ (st.setH H):=⟨h.e,hs,h.f,h.n,h.b,h.F,h.N,h.B⟩
theorem Inv.setE (h:Inv G ρ st) {E:EX} (hs:scE st.n E=true):Inv G ρ (st.setE E):=⟨hs,h.h,h.f,h.n,h.b,h.F,h.N,h.B⟩
structure Ny (G:Nat→List SV→SV→Prop) (ρ:Rho) (st:Sx) (ρ':Rho) (st':Sx):Prop where
 n:st.n≤st'.n
 ag:∀ k,k<st.n→ρ' k=ρ k
 E:st'.E=st.E
 inv:Inv G ρ' st'
theorem Nx.ny (h:Nx G ρ st ρ' st'):Ny G ρ st ρ' st':=⟨h.n,h.ag,h.E,h.inv⟩
theorem Nx.ny2 (h:Nx G ρ st ρ' st') (k:Ny G ρ' st' ρ2 st2):Ny G ρ st ρ2 st2:=
 ⟨Nat.le_trans h.n k.n,fun j hj=>(k.ag j (Nat.lt_of_lt_of_le hj h.n)).trans (h.ag j hj),k.E.trans h.E,k.inv⟩
theorem Ny.trans (h:Ny G ρ st ρ' st') (k:Ny G ρ' st' ρ2 st2):Ny G ρ st ρ2 st2:=
 ⟨Nat.le_trans h.n k.n,fun j hj=>(k.ag j (Nat.lt_of_lt_of_le hj h.n)).trans (h.ag j hj),k.E.trans h.E,k.inv⟩
theorem Nx.setH (h:Nx G ρ st ρ' st') {H:List HX} (hs:scH st'.n H=true):Ny G ρ st ρ' (st'.setH H):=⟨h.n,h.ag,h.E,h.inv.setH hs⟩
def HO (G:Nat→List SV→SV→Prop) (ρ:Rho) (st:Sx) (k:KO) (Q:QO):Prop:=∀ v st' t ρ',Ny G ρ st ρ' st'→ok (k v st' t)→Q (v.den ρ') (denH ρ' st'.H) t
theorem HO.go {k:KO} {Q:QO} (h:HO G ρ st k Q) (n:Nx G ρ st ρ' st'):HO G ρ' st' k Q:=fun v st2 t ρ2 m h2=>h v st2 t ρ2 (n.ny2 m) h2
theorem HO.k1 {k:KO} {Q:QO} (hi:Inv G ρ st) (h:HO G ρ st k Q):HK G ρ st (fun v st=>k v st t0) fun v=>Q v (denH ρ st.H) t0:=fun v st' ρ' n h2=>by
 have:=h v st' t0 ρ' n.ny h2
 rwa [n.denH hi] at this
theorem ctC (T r:Nat):(P.C G).ct T r=(P.ct T).map (TyX.at r):=rfl
theorem eQ (T r:Nat):jP ((P.C G).ct T r)=jP (P.ct T):=jBp _ _
theorem jIi (R:LT) (d:Option Nat):((jWf R d).ev ρ).toNat=(match d with | none=>0 | some d=>(R.ev ρ).toNat - d):=by
 cases d with
 | none=>simp [jWf]
 | some d=>
  simp only [jWf,jG]
  show (R.ev ρ+(0 - (d:Int))).toNat=_
  omega
theorem jSu {n:Nat} {R:LT} (h:R.sc n=true) (d:Option Nat):(jWf R d).sc n=true:=by
 cases d with
 | none=>rfl
 | some d=>exact vI h
theorem qCz (r T:Nat) (d:Option Nat):TyX.at r (.q T d) = .q T (match d with | none=>0 | some d=>r - d):=by cases d<;>rfl
theorem eG {k:LT→LT→Sx→An} (h:ok (fresh st fun a st=>fresh st fun c st=>k a c st)) (hi:Inv G ρ st) (x y:Rv) :
  ∃ ρ',Nx G ρ st ρ' (st.up (st.n+2))∧ρ' st.n=x∧ρ' (st.n+1)=y∧ok (k (.var st.n) (.var (st.n+1)) (st.up (st.n+2))):=by
 obtain ⟨n1,e1,h⟩:=zB h hi x
 obtain ⟨n2,e2,h⟩:=zB h n1.inv y
 exact ⟨_,n1.trans n2,by rw [n2.ag st.n (Nat.lt_succ_self _)]; exact e1,e2,h⟩
theorem qBo {R:LT} {t:TyX} {Q':K1} {Q:P1} (h:ok (xTy R t st Q')) (hi:Inv G ρ st) (hR:R.sc st.n=true) (hk:∀ v st' ρ',Nx G ρ st ρ' st'→v.sc st'.n=true→ok (Q' v st')→Q (v.den ρ')):qEj (t.at (R.ev ρ).toNat) Q:=by
 have sv:∀ n:Nat,(LT.var n).sc (n+1)=true:=fun n=>kA (Nat.lt_succ_self _)
 cases t with
 | i k=>
  simp only [xTy] at h
  intro m
  obtain ⟨n1,e,h⟩:=zB h hi ⟨m,[],0⟩
  have:=hk (.i k (.var st.n)) _ _ n1 (sv _) h
  simp only [SX.den,qA,e] at this
  exact this
 | b=>
  simp only [xTy] at h
  intro x
  obtain ⟨n1,e,h⟩:=zB h hi ⟨if x then 1 else 0,[],0⟩
  have n2:=n1.inv.addFs (l:=[.var st.n,(LT.var st.n).neg.addc 1]) (by
   intro t ht
   simp only [List.mem_cons,List.not_mem_nil,or_false] at ht
   rcases ht with rfl | rfl
   ·exact ⟨sv _,by rw [qA,e]; cases x<;>decide⟩
   ·exact ⟨vI (iM (sv _)),by rw [jG,qN,qA,e]; cases x<;>decide⟩)
  have:=hk (.bv (.var st.n)) _ _ (n1.trans n2) (jF n2.n (sv _)) h
  simp only [SX.den,qA,e] at this
  cases x<;>exact this
 | s m=>
  simp only [xTy] at h
  intro n w hn h0
  obtain ⟨ρ',n1,e1,e2,h⟩:=eG h hi ⟨(n:Int),[],0⟩ ⟨(w:Int),[],0⟩
  have svn:(LT.var st.n).sc (st.n+2)=true:=kA (by omega)
  have n3:=n1.inv.addFs (l:=[.var st.n,(LT.var st.n).neg.addc (SSi + .ofNat m)]) (by
   intro t ht
   simp only [List.mem_cons,List.not_mem_nil,or_false] at ht
   rcases ht with rfl | rfl
   ·exact ⟨svn,by rw [qA,e1]; exact Int.natCast_nonneg n⟩
   ·refine ⟨vI (iM svn),?_⟩
    rw [jG,qN,qA,e1]
    show 0 ≤ -(n:Int)+((22200:Int)+(m:Int))
    have:SS=22200:=rfl
    omega)
  have:=hk (.s (.var st.n) (.var (st.n+1))) _ _ (n1.trans n3) (by simp only [SX.sc,Bool.and_eq_true]; exact ⟨jF n3.n svn,jF n3.n (kA (by show st.n+1<st.n+2; omega))⟩) h
  simp only [SX.den,qA,e1,e2] at this
  exact this
 | t d=>
  simp only [xTy] at h
  intro n w hn h0
  obtain ⟨hd,h⟩:=jE h hi
  have hd':=hd
  rw [jG] at hd'
  obtain ⟨ρ',n1,e1,e2,h⟩:=eG h hi ⟨(n:Int),[],0⟩ ⟨(w:Int),[],0⟩
  have svn:(LT.var st.n).sc (st.n+2)=true:=kA (by omega)
  have svR:(R.addc (0 - .ofNat d)).sc (st.n+2)=true:=vI (jF (by omega) hR)
  have n3:=n1.inv.addFs (l:=[.var st.n,(R.addc (0 - .ofNat d)).sub (.var st.n),(LT.var st.n).neg.addc TBi]) (by
   intro t ht
   simp only [List.mem_cons,List.not_mem_nil,or_false] at ht
   rcases ht with rfl | rfl | rfl
   ·exact ⟨svn,by rw [qA,e1]; exact Int.natCast_nonneg n⟩
   rotate_left
   ·refine ⟨vI (iM svn),?_⟩
    rw [jG,qN,qA,e1]
    show 0 ≤ -(n:Int)+(4000000000:Int)
    have:TB=4000000000:=rfl
    omega
   ·refine ⟨mO svR svn,?_⟩
    rw [jR,jG,qA,e1,n1.lt hR]
    change 0≤R.ev ρ+(0 - (d:Int)) at hd'
    show 0≤R.ev ρ+(0 - (d:Int)) - (n:Int)
    omega)
  have:=hk (.s (.var st.n) (.var (st.n+1))) _ _ (n1.trans n3) (by simp only [SX.sc,Bool.and_eq_true]; exact ⟨jF n3.n svn,jF n3.n (kA (by show st.n+1<st.n+2; omega))⟩) h
  simp only [SX.den,qA,e1,e2] at this
  exact this
 | q T d=>
  simp only [xTy] at h
  rw [qCz]
  intro n
  intro hNB
  obtain ⟨n1,e,h⟩:=zB h hi ⟨(n:Int),[],0⟩
  have n2:=n1.inv.addFs (l:=[.var st.n,(LT.var st.n).neg.addc jDy]) (by
   intro t ht
   simp only [List.mem_cons,List.not_mem_nil,or_false] at ht
   rcases ht with rfl | rfl
   ·exact ⟨sv _,by rw [qA,e]; exact Int.natCast_nonneg n⟩
   ·refine ⟨vI (iM (sv _)),?_⟩
    rw [jG,qN,qA,e]
    show 0 ≤ -(n:Int)+1000000
    have:NB=1000000:=rfl
    omega)
  have:=hk _ _ _ (n1.trans n2) (by simp only [SX.sc,Bool.and_eq_true]; exact ⟨jF (n1.trans n2).n (jSu hR d),jF n2.n (sv _)⟩) h
  simp only [SX.den,qA,e,n1.lt (jSu hR d),jIi] at this
  exact this
theorem jTx {R:LT}:∀ {l:List TyX} {st:Sx} {ρ:Rho} {Q':List SX→Sx→An} {Q:List SV→Prop},ok (qFj R l st Q')→Inv G ρ st→R.sc st.n=true →
  (∀ v st' ρ',Nx G ρ st ρ' st'→scs st'.n v=true→ok (Q' v st')→Q (jQ ρ' v))→jFw (l.map (TyX.at (R.ev ρ).toNat)) Q
 | [],st,ρ,Q',Q,h,hi,hR,hk=>hk [] st ρ (Nx.refl hi) rfl h
 | t::r,st,ρ,Q',Q,h,hi,hR,hk=>by
  simp only [List.map_cons,jFw]
  simp only [qFj] at h
  refine qBo (Q:=fun v=>jFw (r.map (TyX.at (R.ev ρ).toNat)) fun l=>Q (v::l)) h hi hR fun v st1 ρ1 n1 hv h1=>?_
  have:=jTx (Q:=fun l=>Q (v.den ρ1::l)) h1 n1.inv (jF n1.n hR) fun l st2 ρ2 n2 hl h2=>by
   have:=hk (v::l) st2 ρ2 (n1.trans n2) (by simp only [scs,Bool.and_eq_true]; exact ⟨SX.mono n2.n hv,hl⟩) h2
   simp only [jQ,n2.sx hv] at this
   exact this
  rw [n1.lt hR] at this
  exact this
end
end
end Go.Proofs.YtngfdcnglojcaaaGreatDoor.Ev.Rf
end
section
set_option linter.all false
namespace Go.Proofs.YtngfdcnglojcaaaGreatDoor.Ev.Rf
noncomputable section
open Go
section
variable {P:PX} {G:Nat→List SV→SV→Prop} {ρ ρ' ρ2:Rho} {st st' st2:Sx}
theorem jZi {g n c:LT} (h:nlP (n.ev ρ).toNat (c.ev ρ).toNat):(TE.ng g c (.con 0) n).holds G ρ:=by
 intro _ k k0 k1
 rw [qH] at k0
 have:=h k.toNat (by omega)
 unfold byZ
 omega
theorem nX {t:TE} {off:Nat} {m c:LT}:∀ {l:List (Nat×Option Nat)},t∈jFv l off m c→t = .ng (.con 2) c (.con 0) m∧∃ p,p∈l∧p.1=off∧p.2=none
 | [],h=>by cases h
 | p::l,h=>by
  simp only [jFv] at h
  split at h
  ·rename_i e
   cases q:Nat.beq p.1 off with
   | true=>
    rw [q] at h
    rcases List.mem_cons.1 h with h | h
    ·exact ⟨h,p,List.mem_cons_self .., Nat.eq_of_beq_eq_true q,e⟩
    ·obtain ⟨h1,p',h2,h3⟩:=nX h
     exact ⟨h1,p',List.mem_cons_of_mem _ h2,h3⟩
   | false=>
    rw [q] at h
    obtain ⟨h1,p',h2,h3⟩:=nX h
    exact ⟨h1,p',List.mem_cons_of_mem _ h2,h3⟩
  ·obtain ⟨h1,p',h2,h3⟩:=nX h
   exact ⟨h1,p',List.mem_cons_of_mem _ h2,h3⟩
theorem jSo {t:TE} {r:List SX}:∀ {l:List (Nat×Option Nat)},t∈rdR r l→∃ p,p∈l∧∃ m c,zA r p.1=some (.s m c)∧((p.2=none∧t = .ng (.con 2) c (.con 0) m)∨∃ g k t',p.2=some g∧zA r g=some (.i k t')∧t = .ng t' c (.con 0) m)
 | [],h=>by cases h
 | p::l,h=>by
  have back:t∈rdR r l→∃ q,q∈p::l∧∃ m c,zA r q.1=some (.s m c)∧((q.2=none∧t = .ng (.con 2) c (.con 0) m)∨∃ g k t',q.2=some g∧zA r g=some (.i k t')∧t = .ng t' c (.con 0) m):=fun h=>by
   obtain ⟨q,h1,h2⟩:=jSo h
   exact ⟨q,List.mem_cons_of_mem _ h1,h2⟩
  simp only [rdR] at h
  split at h
  ·rename_i m c e
   split at h
   ·rename_i e2
    rcases List.mem_cons.1 h with h | h
    ·exact ⟨p,List.mem_cons_self .., m,c,e,.inl ⟨e2,h⟩⟩
    ·exact back h
   ·rename_i g e2
    split at h
    ·rename_i k t' e3
     rcases List.mem_cons.1 h with h | h
     ·exact ⟨p,List.mem_cons_self .., m,c,e,.inr ⟨g,k,t',e2,e3,h⟩⟩
     ·exact back h
    ·exact back h
  ·exact back h
theorem jSp {l:List (Nat×Option Nat)} {off n0:Nat} {n:Option Nat} {v:SX} (hv:v.sc n0=true) (hrd:rdK l off n (v.den ρ)):∀ t,t∈qEi l off n v→t.sc n0=true∧t.holds G ρ:=by
 intro t ht
 unfold qEi at ht
 split at ht
 ·rename_i m c
  obtain ⟨rfl,p,h1,h2,h3⟩:=nX ht
  simp only [SX.sc,Bool.and_eq_true] at hv
  refine ⟨by simp only [TE.sc,Bool.and_eq_true]; exact ⟨zQ _,hv.2,zQ _,hv.1⟩,jZi (hrd p h1 h2 h3 _ _ rfl)⟩
 ·rename_i k r
  cases q:Nat.beq off 0 with
  | false=>rw [q] at ht; cases ht
  | true=>
   rw [q] at ht
   obtain ⟨p,h1,m,c,h2,h3⟩:=jSo ht
   simp only [SX.sc] at hv
   have hr:rsK l (jQ ρ r):=hrd (Nat.eq_of_beq_eq_true q) _ (by simp only [SX.den])
   have hmc:=jSy hv h2
   simp only [SX.sc,Bool.and_eq_true] at hmc
   have e1:=mI (ρ:=ρ) h2
   rw [jX] at e1
   simp only [SX.den] at e1
   rcases h3 with ⟨e2,rfl⟩ | ⟨g,k,t',e2,e3,rfl⟩
   ·exact ⟨by simp only [TE.sc,Bool.and_eq_true]; exact ⟨zQ _,hmc.2,zQ _,hmc.1⟩,jZi (hr p h1 (by rw [e2]; trivial) _ _ e1)⟩
   ·have hg:=jSy hv e3
    have e4:=mI (ρ:=ρ) e3
    rw [jX] at e4
    simp only [SX.den] at e4
    refine ⟨by simp only [TE.sc,Bool.and_eq_true]; exact ⟨hg,hmc.2,zQ _,hmc.1⟩,fun hg2=>?_⟩
    exact jZi (G:=G) (g:=t') (hr p h1 (by rw [e2]; exact ⟨k,by rw [e4,hg2]⟩) _ _ e1) hg2
 ·cases ht
theorem oR (hi:Inv G ρ st):∀ {l:List TE},(∀ t,t∈l→t.sc st.n=true∧t.holds G ρ)→Nx G ρ st ρ (jPw st l)
 | [],_=>Nx.refl hi
 | t::r,k=>by
  have h1:=oR hi (l:=r) fun t ht=>k t (List.mem_cons_of_mem _ ht)
  obtain ⟨k1,k2⟩:=k t (List.mem_cons_self ..)
  exact h1.trans (h1.inv.addB (TE.mono h1.n k1) k2)
theorem jNn {R:LT} {l:List TyX} {off:Nat} {n:Option Nat} {Q':K1} {Q:P1} (h:ok (jTw R l off n st Q')) (hi:Inv G ρ st) (hR:R.sc st.n=true) (hk:∀ v st' ρ',Nx G ρ st ρ' st'→v.sc st'.n=true→ok (Q' v st')→Q (v.den ρ')):jNc (l.map (TyX.at (R.ev ρ).toNat)) off n Q:=by
 unfold jTw at h
 unfold jNc
 split at h
 ·rw [jX] at h
  rw [jX,List.getElem?_map]
  split at h
  ·rename_i t e
   rw [e]
   exact qBo h hi hR fun v st' ρ' n hv h=>hk v st' ρ' n hv h
  ·exact (jC h).elim
 ·split at h
  ·rename_i l' e
   dsimp only
   rw [gF,gW,e]
   exact jTx (Q:=fun l=>Q (.agg l)) h hi hR fun v st' ρ' n hv h=>by
    have:=hk _ _ _ n (by simp only [SX.sc]; exact hv) h
    simp only [SX.den] at this; exact this
  ·exact (jC h).elim
theorem qBk {n:Option Nat} {a:SX} {Q':K1} {Q:P1} (h:ok (xLd P n a st Q')) (hi:Inv G ρ st) (ha:a.sc st.n=true) (hk:HK G ρ st Q' Q):wLd (P.C G) (denH ρ st.H) n (a.den ρ) Q:=by
 unfold xLd at h
 split at h
 ·rename_i i g off
  simp only [SX.den,wLd]
  split at h
  ·rename_i hb e
   refine yJ e ?_
   split at h
   ·rename_i l hc
    show (match (HX.den ρ hb).c with | .l l=>ldS l off n Q | _=>False)
    simp only [HX.den,hc,HCX.den]
    unfold ldS
    split at h
    ·split at h
     ·rename_i v e2
      rw [mI e2]
      exact hk.now hi h
     ·exact (jC h).elim
    ·split at h
     ·rename_i l' e2
      dsimp only
      rw [rR,sN e2]
      have:=hk.now hi h
      simp only [SX.den] at this; exact this
     ·exact (jC h).elim
   ·exact (jC h).elim
  ·exact (jC h).elim
 ·rename_i i g k off
  simp only [SX.den,wLd]
  split at h
  ·rename_i hb e
   refine yJ e ?_
   split at h
   ·rename_i T R m hc
    show (match (HX.den ρ hb).c with | .r T r _=>jNc ((P.C G).ct T r) off n (fun v=>(P.C G).rd T off n v→Q v) | .rl T r m l=>req (Nat.beq (Nat.succ (k.ev ρ).toNat) m) (ldS l off n Q) | _=>False)
    simp only [HX.den,hc,HCX.den]
    have hs:=(vH hi.h (kG e).1).2
    rw [hc] at hs
    simp only [HCX.sc,Bool.and_eq_true] at hs
    exact jNn h hi hs.1 fun v st' ρ' n1 hv h hrd=>hk _ _ _ (n1.trans (oR n1.inv (jSp hv hrd))) h
   ·rename_i T R m l hc
    show (match (HX.den ρ hb).c with | .r T r _=>jNc ((P.C G).ct T r) off n (fun v=>(P.C G).rd T off n v→Q v) | .rl T r m l=>req (Nat.beq (Nat.succ (k.ev ρ).toNat) m) (ldS l off n Q) | _=>False)
    simp only [HX.den,hc,HCX.den]
    obtain ⟨hk0,h⟩:=jE h hi
    obtain ⟨hkm,h⟩:=jB h
    have ekm:m.ev ρ=k.ev ρ+1:=by rw [←LT.beq_ok hkm,jG]
    have:Nat.beq (Nat.succ (k.ev ρ).toNat) (m.ev ρ).toNat=true:=by
     rw [ekm,yD]; simp; omega
    rw [this]
    simp only [req]
    unfold ldS
    split at h
    ·split at h
     ·rename_i v e2
      rw [mI e2]
      exact hk.now hi h
     ·exact (jC h).elim
    ·split at h
     ·rename_i l' e2
      dsimp only
      rw [rR,sN e2]
      have:=hk.now hi h
      simp only [SX.den] at this; exact this
     ·exact (jC h).elim
   ·exact (jC h).elim
  ·exact (jC h).elim
 ·rename_i T R off
  simp only [SX.den,wLd]
  exact jNn h hi ha fun v st' ρ' n1 hv h hrd=>hk _ _ _ (n1.trans (oR n1.inv (jSp hv hrd))) h
 ·rename_i m c
  simp only [SX.den,wLd]
  split at h
  ·intro _
   have:=hk.now hi h
   simp only [SX.den] at this; exact this
  ·exact (jC h).elim
 ·simp only [SX.den,wLd]
  split at h
  ·intro z
   obtain ⟨n1,e,h⟩:=zB h hi ⟨z,[],0⟩
   have:=hk _ _ _ n1 h
   simp only [SX.den,qA,e] at this; exact this
  ·exact (jC h).elim
 ·exact (jC h).elim
theorem oH {j:Nat} {n m:LT}:∀ {B:List TE},eS j B=some (n,m)→(.ln j n m:TE)∈B
 | [],h=>by cases h
 | t::r,h=>by
  simp only [eS] at h
  split at h
  ·rename_i i n' m'
   cases q:Nat.beq i j with
   | true=>
    rw [q] at h
    simp at h
    obtain ⟨rfl,rfl⟩:=h
    rw [←Nat.eq_of_beq_eq_true q]
    exact List.mem_cons_self ..
   | false=>rw [q] at h; exact List.mem_cons_of_mem _ (oH h)
  ·exact List.mem_cons_of_mem _ (oH h)
theorem tW (hi:Inv G ρ st) {j:Nat} {n m:LT} (h:eS j st.B=some (n,m)):((ρ j).l.length:Int)=n.ev ρ∧(∀ p,p∈(ρ j).l→(p.1:Int)≤m.ev ρ)∧n.sc st.n=true∧m.sc st.n=true∧Nat.blt j st.n=true:=by
 have h1:=hi.B _ (oH h)
 have h2:=hi.b _ (oH h)
 simp only [TE.sc,Bool.and_eq_true] at h2
 exact ⟨h1.1,h1.2,h2.2.1,h2.2.2,h2.1⟩
theorem aJ (l:List TyX) (r:Nat):dP (l.map (TyX.at r))=jWg l:=by
 match l with
 | []=>rfl
 | [.s m]=>rfl
 | [.t m]=>rfl
 | [.i k]=>rfl
 | [.b]=>rfl
 | [.q T none]=>rfl
 | [.q T (some d)]=>rfl
 | .i k::_::_=>rfl
 | .b::_::_=>rfl
 | .s m::_::_=>rfl
 | .t m::_::_=>rfl
 | .q T none::_::_=>rfl
 | .q T (some d)::_::_=>rfl
theorem qAm (l:List TyX) (r:Nat):qMd (l.map (TyX.at r))=jTe l:=by
 match l with
 | []=>rfl
 | [.s m]=>rfl
 | [.t m]=>rfl
 | [.i k]=>rfl
 | [.b]=>rfl
 | [.q T none]=>rfl
 | [.q T (some d)]=>rfl
 | .i k::_::_=>rfl
 | .b::_::_=>rfl
 | .s m::_::_=>rfl
 | .t m::_::_=>rfl
 | .q T none::_::_=>rfl
 | .q T (some d)::_::_=>rfl
theorem jUx (t:TyX) (r:Nat):jAy (t.at r)=jYi t:=by cases t with | q T d=>cases d<;>rfl | _=>rfl
theorem jAz (r:Nat):∀ l:List TyX,rZ (l.map (TyX.at r))=oF l
 | []=>rfl
 | t::l=>by simp only [List.map_cons,rZ,oF,jUx,jAz r l]
theorem jLo (r:Nat):∀ l:List TyX,jOv (l.map (TyX.at r))=jZj l
 | []=>rfl
 | t::l=>by
  have:=jLo r l
  cases t with
  | q T d=>cases d<;>exact this
  | s m=>rfl
  | _=>exact this
theorem jZp (r:Nat) (ct:List TyX) (off:Nat) (l:List TyX):jVt (ct.map (TyX.at r)) off (l.map (TyX.at r))=jZo ct off l:=by
 unfold jVt jZo
 rw [jLo]
 congr 1
 cases off with
 | zero=>rfl
 | succ k=>
  match l with
  | []=>rfl
  | [t]=>
   show (match zA (ct.map (TyX.at r)) k with | some .b=>true | _=>false)=(match zA ct k with | some .b=>true | _=>false)
   rw [jX,jX,List.getElem?_map]
   cases ct[k]? with
   | none=>rfl
   | some t=>cases t with
    | q T d=>cases d<;>rfl
    | _=>rfl
  | _::_::_=>rfl
theorem jRf {R:LT} {t:TyX} {v:SX} {k:An} (h:ok (qDo P st R t v k)) (hi:Inv G ρ st):jEb (P.C G) (t.at (R.ev ρ).toNat) (v.den ρ)∧ok k:=by
 unfold qDo at h
 split at h
 ·obtain ⟨h1,h⟩:=jB h
  exact ⟨by simp only [SX.den,TyX.at,jEb,h1,req],h⟩
 ·exact ⟨trivial,h⟩
 ·exact ⟨trivial,h⟩
 ·rename_i m n c
  obtain ⟨h1,h⟩:=jE h hi
  rw [jG,qN] at h1
  refine ⟨?_,h⟩
  show (n.ev ρ).toNat≤SS+m
  have e1:SSi=22200:=rfl
  have e2:SS=22200:=rfl
  have e3:(Int.ofNat m:Int)=(m:Int):=rfl
  omega
 ·rename_i d n c
  obtain ⟨h1,h⟩:=jE h hi
  obtain ⟨h2,h⟩:=jE h hi
  rw [jR,jG] at h1
  rw [jG,qN] at h2
  refine ⟨?_,h⟩
  show (n.ev ρ).toNat≤(R.ev ρ).toNat - d∧(n.ev ρ).toNat≤TB
  have e3:(Int.ofNat d:Int)=(d:Int):=rfl
  have e4:TBi=4000000000:=rfl
  have e5:TB=4000000000:=rfl
  omega
 ·refine ⟨?_,h⟩
  rw [qCz]; trivial
 ·rename_i T d T' R' n
  obtain ⟨h1,h⟩:=jB h
  obtain ⟨h2,h⟩:=jE h hi
  rw [jR] at h2
  refine ⟨?_,h⟩
  rw [qCz,←jIi (ρ:=ρ)]
  simp only [SX.den,jEb,h1,req]
  omega
 ·rename_i T d j
  obtain ⟨h1,h⟩:=jB h
  rw [Bool.and_eq_true,Bool.not_eq_true'] at h1
  have h2:(P.C G).co T=0:=by
   show (bif P.cp T then 1 else 0)=0
   rw [h1.2]; rfl
  split at h
  ·rename_i n m e
   obtain ⟨hn3,h⟩:=jE h hi
   obtain ⟨h3,h⟩:=jE h hi
   rw [jG,qN] at h3 hn3
   refine ⟨?_,h⟩
   rw [qCz,←jIi (ρ:=ρ)]
   simp only [SX.den,jEb,ctC,aJ,h1.1,req,qAm]
   have hlen:=(tW hi e).1
   have hb12:jDy=1000000:=rfl
   have hNB:NB=1000000:=rfl
   refine ⟨h2,by omega,fun p hp=>?_⟩
   have:=(tW hi e).2.1 p hp
   have e1:SSi=22200:=rfl
   have e2:SS=22200:=rfl
   have e3:(Int.ofNat (jTe (P.ct T)):Int)=(jTe (P.ct T):Int):=rfl
   omega
  ·exact (jC h).elim
 ·exact (jC h).elim
theorem jAx {R:LT}:∀ {l:List TyX} {v:List SX} {k:An},ok (jKq P st R l v k)→Inv G ρ st→jEy (P.C G) (l.map (TyX.at (R.ev ρ).toNat)) (jQ ρ v)∧ok k
 | [],[],k,h,hi=>⟨trivial,h⟩
 | [],_::_,k,h,hi=>(jC h).elim
 | _::_,[],k,h,hi=>(jC h).elim
 | t::r,v::l,k,h,hi=>by
  obtain ⟨h1,h⟩:=jRf (k:=jKq P st R r l k) h hi
  obtain ⟨h2,h⟩:=jAx h hi
  exact ⟨⟨h1,h2⟩,h⟩
theorem qKe {n:Nat} {a x:SX} {Q':KH} {Q:QH} (h:ok (xSt P n a x st Q')) (hi:Inv G ρ st) (ha:a.sc st.n=true) (hk:∀ st' t ρ',Ny G ρ st ρ' st'→ok (Q' st' t)→Q (denH ρ' st'.H) t):wSt (P.C G) (denH ρ st.H) n (a.den ρ) (x.den ρ) Q:=by
 unfold xSt at h
 replace h:=jB h
 obtain ⟨h0,h⟩:=h
 unfold wSt
 rw [aS,dG,mM,h0]
 simp only [req]
 split at h
 ·rename_i i g off
  split at h
  ·rename_i hb e
   simp only [SX.den]
   refine yJ e ?_
   split at h
   ·rename_i l hc
    simp only [HX.den,hc,HCX.den]
    split at h
    ·rename_i l' e2
     obtain ⟨h1,h⟩:=jB h
     rw [jCj e2]
     have hg:=vH hi.h (kG e).1
     have hs:scH st.n (jH st.H i ⟨hb.e,hb.g,.l l'⟩)=true:=yS (hb:=⟨hb.e,hb.g,.l l'⟩) hg.1 h1 hi.h
     have:=hk _ _ ρ ((Nx.refl hi).setH hs) h
     rw [show (st.setH (jH st.H i ⟨hb.e,hb.g,.l l'⟩)).H=jH st.H i ⟨hb.e,hb.g,.l l'⟩ from rfl,←yA] at this
     exact this
    ·exact (jC h).elim
   ·exact (jC h).elim
  ·exact (jC h).elim
 ·rename_i i g k off
  split at h
  ·rename_i hb e
   simp only [SX.den]
   refine yJ e ?_
   split at h
   ·rename_i T R m hc
    simp only [HX.den,hc,HCX.den]
    split at h
    ·rename_i l e2
     obtain ⟨h1,h⟩:=jB h
     obtain ⟨h2,h⟩:=jAx h hi
     obtain ⟨h3,h⟩:=gZ hi h
     rw [eQ,ctC,gF,gW,e2,h1]
     rw [qH] at h2
     exact ⟨⟨h2,h3⟩,hk _ _ ρ (Nx.refl hi).ny h⟩
    ·exact (jC h).elim
   ·exact (jC h).elim
  ·exact (jC h).elim
 ·rename_i T R off
  simp only [SX.den]
  split at h
  ·rename_i l e2
   obtain ⟨h1,h⟩:=jB h
   obtain ⟨h2,h⟩:=jAx h hi
   obtain ⟨h3,h⟩:=gZ hi h
   simp only [Bool.and_eq_true] at h1
   rw [eQ,ctC,gF,gW,e2,aJ]
   show req (rZ (l.map (TyX.at (R.ev ρ).toNat))&&jVt ((P.ct T).map (TyX.at (R.ev ρ).toNat)) off (l.map (TyX.at (R.ev ρ).toNat)) && !jWg (P.ct T)&&Nat.ble off (jP (P.ct T))) _
   rw [jAz,jZp,h1.1,h1.2.1,h1.2.2.1,h1.2.2.2]
   exact ⟨⟨h2,h3⟩,hk _ _ ρ (Nx.refl hi).ny h⟩
  ·exact (jC h).elim
 ·exact (jC h).elim
theorem qJz {x:SX} {Q':K1} {Q:P1} (h:ok (xNc x st Q')) (hi:Inv G ρ st) (hk:HK G ρ st Q' Q):wNc (denH ρ st.H) (x.den ρ) Q:=by
 unfold xNc at h
 split at h
 ·simp only [SX.den,wNc]
  split at h
  ·rename_i hb e
   exact yJ e (hk.now hi h)
  ·exact (jC h).elim
 ·simp only [SX.den,wNc]
  split at h
  ·rename_i hb e
   refine yJ e ?_
   split at h
   ·rename_i hc
    simp only [HX.den,hc,HCX.den]
    exact hk.now hi h
   ·rename_i hc
    simp only [HX.den,hc,HCX.den]
    exact hk.now hi h
   ·exact (jC h).elim
  ·exact (jC h).elim
 ·exact hk.now hi h
 ·exact hk.now hi h
 ·exact (jC h).elim
theorem qJr {off:Nat} {x:SX} {Q':K1} {Q:P1} (h:ok (xFa off x st Q')) (hi:Inv G ρ st) (hk:HK G ρ st Q' Q):wFa (denH ρ st.H) off (x.den ρ) Q:=by
 unfold xFa at h
 split at h
 ·simp only [SX.den,wFa]
  split at h
  ·rename_i hb e
   rw [zP] at h
   exact yJ e (hk.now hi h)
  ·exact (jC h).elim
 ·simp only [SX.den,wFa]
  split at h
  ·rename_i hb e
   refine yJ e ?_
   split at h
   ·rename_i hc
    rw [zP] at h
    simp only [HX.den,hc,HCX.den]
    exact hk.now hi h
   ·rename_i hc
    rw [zP] at h
    simp only [HX.den,hc,HCX.den]
    exact hk.now hi h
   ·exact (jC h).elim
  ·exact (jC h).elim
 ·rw [zP] at h
  exact hk.now hi h
 ·obtain ⟨h1,h⟩:=jB h
  simp only [SX.den,wFa,h1,req]
  exact hk.now hi h
 ·exact (jC h).elim
theorem eW {j:Nat} {k n c:LT}:∀ {B:List TE},jBs j k B=some (n,c)→(.el j k n c:TE)∈B
 | [],h=>by cases h
 | t::r,h=>by
  simp only [jBs] at h
  split at h
  ·rename_i i u n' c'
   cases q:(Nat.beq i j&&u.beq k) with
   | true=>
    rw [q] at h
    simp at h
    obtain ⟨rfl,rfl⟩:=h
    rw [Bool.and_eq_true] at q
    rw [←Nat.eq_of_beq_eq_true q.1,←LT.beq_ok q.2]
    exact List.mem_cons_self ..
   | false=>rw [q] at h; exact List.mem_cons_of_mem _ (eW h)
  ·exact List.mem_cons_of_mem _ (eW h)
theorem qJs {sz:Nat} {x y:SX} {Q':K1} {Q:P1} (h:ok (xIa P sz x y st Q')) (hi:Inv G ρ st) (hx:x.sc st.n=true) (hy:y.sc st.n=true) (hk:HK G ρ st Q' Q):wIa (P.C G) (denH ρ st.H) sz (x.den ρ) (y.den ρ) Q:=by
 unfold wIa
 have h0:=h
 clear h
 refine jUb h0 hy fun k hkk h=>?_
 clear h0
 split at h
 ·rename_i i g n sz'
  obtain ⟨h1,h⟩:=jB h
  obtain ⟨h2,h⟩:=jE h hi
  obtain ⟨h3,h⟩:=jE h hi
  rw [jG,jR] at h3
  simp only [SX.den,h1,req]
  refine ⟨⟨h2,by omega⟩,?_⟩
  split at h
  ·rename_i hb e
   refine yJ e ?_
   split at h
   ·rename_i l hc
    simp only [HX.den,hc,HCX.den]
    split at h
    ·rename_i e3
     rw [zP] at h
     have ek:k.ev ρ=k.c:=by simp only [LT.ev,e3,evL]; omega
     have:=hk.now hi h
     simp only [SX.den] at this
     rw [ek]
     rw [ek] at h2
     obtain ⟨m,hm⟩:=Int.eq_ofNat_of_zero_le h2
     rw [hm] at this ⊢
     exact this
    ·obtain ⟨c,h⟩:=dD h
     obtain ⟨q1,h⟩:=jE h hi
     obtain ⟨q2,h⟩:=jE h hi
     rw [jG] at q1
     rw [jG,qN] at q2
     rw [zP] at h
     have ek:k.ev ρ=(c:Int):=by
      have:Int.ofNat c=(c:Int):=rfl
      omega
     have:=hk.now hi h
     simp only [SX.den] at this
     rw [ek]
     exact this
   ·rename_i T R m hc
    simp only [HX.den,hc,HCX.den]
    obtain ⟨h4,h⟩:=jB h
    rw [eQ,h4]
    have:=hk.now hi h
    simp only [SX.den] at this; exact this
   ·rename_i T R m hc
    simp only [HX.den,hc,HCX.den]
    obtain ⟨h4,h⟩:=jB h
    rw [eQ,h4]
    have:=hk.now hi h
    simp only [SX.den] at this; exact this
   ·exact (jC h).elim
  ·exact (jC h).elim
 ·rename_i T R n
  obtain ⟨h1,h⟩:=jB h
  obtain ⟨h2,h⟩:=jE h hi
  obtain ⟨h3,h⟩:=jE h hi
  rw [jG,jR] at h3
  simp only [SX.den]
  rw [eQ,h1]
  refine ⟨⟨h2,by omega⟩,fun hcp=>?_⟩
  rcases qT h with ⟨e,h⟩ | ⟨e,h⟩
  ·have hcp':1≤(R.ev ρ).toNat:=by
    have:(if P.cp T=true then 1≤(R.ev ρ).toNat else True):=hcp
    rwa [if_pos e] at this
   obtain ⟨s1,n1,h⟩:=qD h hi (by rw [jG]; omega)
   have:=hk _ _ _ n1 h
   simp only [SX.den] at this; exact this
  ·have:=hk.now hi h
   simp only [SX.den] at this; exact this
 ·rename_i j
  obtain ⟨h1,h⟩:=jB h
  split at h
  ·rename_i n m e
   obtain ⟨l1,l2,l3,l4,l5⟩:=tW hi e
   obtain ⟨h2,h⟩:=jE h hi
   obtain ⟨h3,h⟩:=jE h hi
   rw [jG,jR] at h3
   simp only [SX.den,h1,req]
   refine ⟨⟨h2,by omega⟩,fun p hp=>?_⟩
   have hpm:p∈(ρ j).l:=List.mem_of_getElem? hp
   split at h
   ·rename_i a c e2
    have hB:=hi.B _ (eW e2)
    simp only [TE.holds] at hB
    rw [hB] at hp
    cases hp
    have:=hk.now hi h
    simp only [SX.den] at this; exact this
   ·obtain ⟨h4,h⟩:=jB h
    simp only [Bool.and_eq_true] at h4
    obtain ⟨ρ',n1,e1,e2,h⟩:=eG h hi ⟨(p.1:Int),[],0⟩ ⟨(p.2:Int),[],0⟩
    have sa:(LT.var st.n).sc (st.n+2)=true:=kA (by omega)
    have sc':(LT.var (st.n+1)).sc (st.n+2)=true:=kA (by omega)
    have n2:=n1.inv.addFs (l:=[.var st.n,m.sub (.var st.n),.var (st.n+1)]) (by
     intro t ht
     simp only [List.mem_cons,List.not_mem_nil,or_false] at ht
     rcases ht with rfl | rfl | rfl
     ·exact ⟨sa,by rw [qA,e1]; exact Int.natCast_nonneg _⟩
     ·exact ⟨mO (jF n1.n h4.2.2) sa,by rw [jR,qA,e1,n1.lt h4.2.2]; have:=l2 p hpm; show 0≤m.ev ρ - (p.1:Int); omega⟩
     ·exact ⟨sc',by rw [qA,e2]; exact Int.natCast_nonneg _⟩)
    have hj:ρ' j=ρ j:=n1.ag j (Nat.le_of_ble_eq_true h4.1)
    have n3:=n2.inv.addB (t:=.el j k (.var st.n) (.var (st.n+1))) (by
     have hm:=Nat.le_trans n1.n n2.n
     simp only [TE.sc,Bool.and_eq_true]
     exact ⟨Nat.ble_eq_true_of_le (Nat.le_trans (Nat.le_of_ble_eq_true h4.1) hm),jF hm h4.2.1,jF n2.n sa,jF n2.n sc'⟩) (by
     simp only [TE.holds,hj,n1.lt h4.2.1,qA,e1,e2]
     exact hp)
    have:=hk _ _ _ ((n1.trans n2).trans n3) h
    simp only [SX.den,qA,e1,e2] at this
    exact this
  ·exact (jC h).elim
 ·rename_i n
  obtain ⟨h1,h⟩:=jB h
  obtain ⟨h2,h⟩:=jE h hi
  obtain ⟨h3,h⟩:=jE h hi
  rw [jG,jR] at h3
  simp only [SX.den,h1,req]
  exact ⟨⟨h2,by omega⟩,hk.now hi h⟩
 ·exact (jC h).elim
theorem kL (H:List HX) (i:Nat):denH ρ (uB H i)=dead (denH ρ H) i:=by
 unfold uB dead
 cases e:zA H i with
 | some hb=>
  rw [gE e]
  show denH ρ (jH H i ⟨hb.e,hb.g.up,.dead⟩)=jH (denH ρ H) i ⟨hb.e,Nat.succ (hb.g.den ρ),.dead⟩
  rw [←yA]
  show jH _ _ (HX.den ρ ⟨hb.e,hb.g.up,.dead⟩)=_
  simp only [HX.den,Gn.up_den,HCX.den]
 | none=>rw [eA e]
theorem kY {n:Nat} {H:List HX} {i:Nat} (h:scH n H=true):scH n (uB H i)=true:=by
 unfold uB
 split
 ·rename_i hb e
  exact yS (hb:=⟨hb.e,hb.g.up,.dead⟩) (vH h e).1 rfl h
 ·exact h
theorem jZb (hi:Inv G ρ st) {j:Nat} {n m a b:LT} (l1:((ρ j).l.length:Int)=n.ev ρ) (l2:∀ p,p∈(ρ j).l→(p.1:Int)≤m.ev ρ) (h1:0≤a.ev ρ) (h2:0≤b.ev ρ - a.ev ρ) (h3:0≤n.ev ρ - b.ev ρ) (sm:m.sc st.n=true) (sa:a.sc st.n=true) (sb:b.sc st.n=true) {k:LT→Sx→An} (h:ok (fresh st k)) :
  ∃ ρ',Nx G ρ st ρ' ((st.up (st.n+1)).addB (.ln st.n (b.sub a) m))∧(ρ' st.n).l=((ρ j).l.drop (a.ev ρ).toNat).take (b.ev ρ - a.ev ρ).toNat∧ok (k (.var st.n) (st.up (st.n+1))):=by
 obtain ⟨n1,e,h⟩:=zB h hi ⟨0,((ρ j).l.drop (a.ev ρ).toNat).take (b.ev ρ - a.ev ρ).toNat,0⟩
 have n2:=n1.inv.addB (t:=.ln st.n (b.sub a) m) (by
  simp only [TE.sc,Bool.and_eq_true]
  exact ⟨Nat.ble_eq_true_of_le (Nat.le_refl _),mO (jF n1.n sb) (jF n1.n sa),jF n1.n sm⟩) (by
  simp only [TE.holds,e,jR,n1.lt sa,n1.lt sb,n1.lt sm]
  refine ⟨?_,fun p hp=>l2 p (List.mem_of_mem_drop (List.mem_of_mem_take hp))⟩
  rw [List.length_take,List.length_drop]; omega)
 exact ⟨_,n1.trans n2,by rw [e],h⟩
theorem qKc {sz:Nat} {x:SX} {lo hi':Option X} {Q':KO} {Q:QO} (h:ok (xSl P sz x lo hi' st Q')) (hi:Inv G ρ st) (hx:x.sc st.n=true) (hk:HO G ρ st Q' Q):wSl (P.C G) (denH ρ st.H) sz (x.den ρ) lo hi' (denE ρ st.E) Q:=by
 unfold xSl at h
 split at h
 ·simp only [SX.den,wSl]
  refine uI h hi (zQ _) (by rw [qH]) fun a ha h=>?_
  refine uI h hi (zQ _) (by rw [qH]) fun b hb h=>?_
  obtain ⟨h1,h⟩:=jE h hi
  obtain ⟨h2,h⟩:=jE h hi
  obtain ⟨h3,h⟩:=jE h hi
  rw [jR] at h2; rw [qN] at h3
  exact ⟨by omega,hk _ _ _ _ (Nx.refl hi).ny h⟩
 ·rename_i T R n
  simp only [SX.sc,Bool.and_eq_true] at hx
  obtain ⟨h0,h⟩:=jB h
  obtain ⟨hn,h⟩:=jE h hi
  simp only [SX.den,wSl]
  rw [eQ,h0]
  refine uI h hi (zQ _) (by rw [qH]) fun a ha h=>?_
  refine uI h hi hx.2 (by omega) fun b hb h=>?_
  obtain ⟨h1,h⟩:=jE h hi
  obtain ⟨h2,h⟩:=jE h hi
  obtain ⟨h3,h⟩:=jE h hi
  rw [jR] at h2 h3
  refine ⟨by omega,fun m hm=>?_⟩
  have:=hk _ _ _ _ (Nx.refl hi).ny h
  simp only [SX.den,jR] at this
  rwa [show (b.ev ρ - a.ev ρ).toNat=m by omega] at this
 ·rename_i j
  obtain ⟨h0,h⟩:=jB h
  split at h
  ·rename_i n m e
   obtain ⟨l1,l2,l3,l4,l5⟩:=tW hi e
   obtain ⟨hn,h⟩:=jE h hi
   simp only [SX.den,wSl,h0,req]
   refine uI h hi (zQ _) (by rw [qH]) fun a ha h=>?_
   refine uI h hi l3 l1 fun b hb h=>?_
   obtain ⟨h1,h⟩:=jE h hi
   obtain ⟨h2,h⟩:=jE h hi
   obtain ⟨h3,h⟩:=jE h hi
   rw [jR] at h2 h3
   refine ⟨by omega,?_⟩
   obtain ⟨h4,h⟩:=jB h
   obtain ⟨ρ',n1,e1,h⟩:=jZb hi l1 l2 h1 h2 h3 l4 ha hb h
   have:=hk _ _ _ _ n1.ny h
   rw [show (SX.qs (Nat.pred (st.up (st.n+1)).n)).den ρ' = .qs (ρ' st.n).l from rfl,e1] at this
   have hH:denH ρ' ((st.up (st.n+1)).addB (.ln st.n (b.sub a) m)).H=denH ρ st.H:=n1.denH hi
   rw [hH] at this
   exact this
  ·exact (jC h).elim
 ·rename_i i g n sz'
  simp only [SX.den,wSl]
  split at h
  ·rename_i hb e
   refine yJ e ?_
   split at h
   ·rename_i j hc
    simp only [HX.den,hc,HCX.den]
    obtain ⟨h0,h⟩:=jB h
    split at h
    ·rename_i n m e2
     obtain ⟨l1,l2,l3,l4,l5⟩:=tW hi e2
     obtain ⟨hn,h⟩:=jE h hi
     simp only [h0,req]
     refine uI h hi (zQ _) (by rw [qH]) fun a ha h=>?_
     refine uI h hi l3 l1 fun b hb2 h=>?_
     obtain ⟨h1,h⟩:=jE h hi
     obtain ⟨h2,h⟩:=jE h hi
     obtain ⟨h3,h⟩:=jE h hi
     rw [jR] at h2 h3
     refine ⟨by omega,?_⟩
     obtain ⟨h4,h⟩:=jB h
     obtain ⟨ρ',n1,e1,h⟩:=jZb hi l1 l2 h1 h2 h3 l4 ha hb2 h
     have hs:scH ((st.up (st.n+1)).addB (.ln st.n (b.sub a) m)).n (uB st.H i)=true:=uH n1.n (kY hi.h)
     have:=hk _ _ _ _ (n1.setH hs) h
     rw [show (SX.qs (Nat.pred (st.up (st.n+1)).n)).den ρ' = .qs (ρ' st.n).l from rfl,e1] at this
     have hH:denH ρ' (uB st.H i)=dead (denH ρ st.H) i:=by rw [←kL]; exact zM n1.ag (kY hi.h)
     change Q _ (denH ρ' (uB st.H i)) _ at this
     rw [hH] at this
     exact this
    ·exact (jC h).elim
   ·exact (jC h).elim
  ·exact (jC h).elim
 ·exact (jC h).elim
theorem qJu {x:SX} {Q':K1} {Q:P1} (h:ok (xLm x st Q')) (hi:Inv G ρ st) (hk:HK G ρ st Q' Q):wLm (denH ρ st.H) (x.den ρ) Q:=by
 unfold xLm at h
 split at h
 ·have:=hk.now hi h
  simp only [SX.den,qH] at this; exact this
 ·rename_i i g n z
  simp only [SX.den,wLm]
  split at h
  ·rename_i hb e
   refine yJ e ?_
   split at h
   ·exact (jC h).elim
   ·rename_i hne
    obtain ⟨hn,h⟩:=jE h hi
    have:=hk.now hi h
    simp only [SX.den] at this
    have e1:(((n.ev ρ).toNat:Nat):Int)=n.ev ρ:=Int.toNat_of_nonneg hn
    cases hc:hb.c with
    | dead=>exact absurd hc hne
    | l l=>simp only [HX.den,hc,HCX.den]; rw [e1]; exact this
    | r T R k=>simp only [HX.den,hc,HCX.den]; rw [e1]; exact this
    | xs j=>simp only [HX.den,hc,HCX.den]; rw [e1]; exact this
    | rl T R k m=>simp only [HX.den,hc,HCX.den]; rw [e1]; exact this
  ·exact (jC h).elim
 ·rename_i T R n
  obtain ⟨hn,h⟩:=jE h hi
  have:=hk.now hi h
  simp only [SX.den,wLm] at this ⊢
  rw [Int.toNat_of_nonneg hn]; exact this
 ·rename_i j
  split at h
  ·rename_i n m e
   obtain ⟨hn,h⟩:=jE h hi
   have:=hk.now hi h
   simp only [SX.den,wLm] at this ⊢
   rw [(tW hi e).1]; exact this
  ·exact (jC h).elim
 ·obtain ⟨hn,h⟩:=jE h hi
  have:=hk.now hi h
  simp only [SX.den,wLm] at this ⊢
  rw [Int.toNat_of_nonneg hn]; exact this
 ·exact (jC h).elim
end
end
end Go.Proofs.YtngfdcnglojcaaaGreatDoor.Ev.Rf
end
