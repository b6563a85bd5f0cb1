/-
The operations of the small language that leave memory as it is are the model's. No program is named here.
-/
import Derived.Test.YtngfdcnglojcaaaGreatDoorEvB
import Derived.Test.YtngfdcnglojcaaaGreatDoorEvC
import Derived.Test.YtngfdcnglojcaaaGreatDoorMem
set_option linter.all false
namespace Go.Proofs.YtngfdcnglojcaaaGreatDoor.Ev
noncomputable section
open Go Go.RowKit
section
variable {μ:Mu} {j:J}
theorem jGu:∀ {v:Value} {x:AV},jWn v=some x→RV μ j x v∧x.one=true:=by
 intro v x h
 unfold jWn at h
 split at h<;>first | (cases h; done) | (simp only [Option.some.injEq] at h; subst h; exact ⟨rfl,rfl⟩) | (simp only [Option.some.injEq] at h; subst h; exact ⟨.inl ⟨rfl,rfl⟩,rfl⟩) | (rw [gL] at h; simp only [Option.some.injEq] at h; subst h; exact ⟨⟨_,rfl,by simp,rfl⟩,rfl⟩)
theorem lU:∀ {l:List Value} {x:List AV},jWo l=some x→RL μ j x l∧jN x=true
 | [],x,h=>by cases h; exact ⟨rfl,rfl⟩
 | v::r,x,h=>by
  simp only [jWo] at h
  split at h
  ·rename_i a b ha hb
   cases h
   obtain ⟨h1,h2⟩:=jGu (μ:=μ) (j:=j) ha
   obtain ⟨h3,h4⟩:=lU hb
   exact ⟨⟨v,r,rfl,h1,h3⟩,by simp [jN,h2,h4]⟩
  ·cases h
theorem jPv {v:Value} {x:AV} (h:qCg v=some x):RV μ j x v:=by
 unfold qCg at h
 split at h
 ·split at h
  ·rename_i l hl
   cases h
   exact ⟨_,rfl,(lU hl).1⟩
  ·cases h
 ·exact (jGu h).1
def RT (μ:Mu) (j:J) (τ:T) (a:Act):Prop:=∀ t,RV μ j ((X.t t).ev τ) (a.tmps.getD t undef)
theorem RT.mono {j':J} {τ:T} {a:Act} (h:RT μ j τ a) (hj:j.le j'):RT μ j' τ a:=fun t=>(h t).mono hj
theorem jJ {x:Operand} {y:X} (h:xOf x=some y) {τ:T} {a:Act} (ht:RT μ j τ a):RV μ j (y.ev τ) (a.eval x):=by
 cases x with
 | tmp t=>simp only [xOf,Option.some.injEq] at h; subst h; exact ht t
 | const v=>
  simp only [xOf] at h
  split at h
  ·rename_i z hz
   cases h
   exact jPv hz
  ·cases h
 | global g=>cases h
 | func f=>simp only [xOf,Option.some.injEq] at h; subst h; exact ⟨#[], #[],rfl,rfl,rfl⟩
theorem wN:∀ {x:List Operand} {y:List X},aN x=some y→∀ {τ:T} {a:Act},RT μ j τ a→RL μ j (evs τ y) (x.map a.eval)
 | [],y,h,τ,a,_=>by cases h; rfl
 | x::r,y,h,τ,a,ht=>by
  simp only [aN] at h
  split at h
  ·rename_i u v hu hv
   cases h
   exact ⟨_,_,rfl,jJ hu ht,wN hv ht⟩
  ·cases h
theorem RT.put {τ:T} {a:Act} (ht:RT μ j τ a) {d:Option Nat} {nt:Nat} (hd:tF nt d=true) (hn:a.tmps.size=nt) {x:AV} {v:Value} (hv:RV μ j x v):RT μ j (gQ τ d x) (a.put d v):=by
 cases d with
 | none=>exact ht
 | some d=>
  simp only [tF,Bool.and_eq_true,Nat.blt_eq] at hd
  intro t
  have:=ht t
  simp only [X.ev,gQ,Tr.get_set30 _ _ _ _ (Nat.zero_le _),Act.put,Array.getD_eq_getD_getElem?] at this ⊢
  by_cases e:t=d
  ·subst e
   rw [if_pos rfl,Array.getElem?_setIfInBounds_self_of_lt (by omega)]
   exact hv
  ·rw [if_neg e,Array.getElem?_setIfInBounds_ne (Ne.symm e)]
   exact this
theorem jCl {a:Act} {d:Option Nat} {v:Value}:(a.put d v).tmps.size=a.tmps.size:=by cases d<;>simp [Act.put]
theorem sH {a:Act} {d:Option Nat} {v:Value}:(a.put d v).defers=a.defers:=by cases d<;>rfl
end
section
variable {P:Program} {μ:Mu} {B:Nat→Prop} {w0 w:World} {j:J} {σ:Mem} {τ:T} {a:Act}
def jDw (P:Program) (μ:Mu) (j:J) (o:Oper) (a:Act) (w:World) (x:AV):Prop:=∃ v,(execOp a.eval o).run P w = .ok (.value v) w∧RV μ j x v
theorem jS {o:Oper} {x:AV} {s:Sem Value} {v:Value} (h:execOp a.eval o=(do pure (.value (←s)))) (hr:s.run P w = .ok v w) (hv:RV μ j x v):jDw P μ j o a w x:=
 ⟨v,by rw [h]; simp [hr],hv⟩
theorem vL {t n:Nat} (h:xJ P t=some n):∃ i,P.info? t=some i∧i.size=n:=by
 unfold xJ at h
 split at h
 ·rename_i i hi; cases h; exact ⟨i,hi,rfl⟩
 ·cases h
theorem run_sizeOf {t n:Nat} (h:xJ P t=some n) (w:World):(sizeOf t).run P w = .ok n w:=by
 obtain ⟨i,hi,rfl⟩:=vL h
 simp [sizeOf,typeInfo,hi]
theorem vZ {t:Nat} {g:Bool} (h:jJl P t=some g) (w:World):(isAgg t).run P w = .ok g w:=by
 unfold jJl at h
 split at h<;>first | (cases h; done) | (rename_i hd; simp only [Option.some.injEq] at h; subst h; simp [isAgg,run_underlying hd]) | skip
theorem nG {t:Nat} {n:Option Nat} (h:dT P t=some n):(∃ k,n=some k∧jJl P t=some true∧xJ P t=some k)∨(n=none∧jJl P t=some false):=by
 unfold dT at h
 split at h<;>cases h
 ·exact .inl ⟨_,rfl,by assumption,by assumption⟩
 ·exact .inr ⟨rfl,by assumption⟩
theorem lN (hr:Rel μ B w0 j σ w) {t:Nat} {n:Option Nat} (hn:dT P t=some n) {b o:Nat} {g:G} (hj:j b=some g) {x:AV}
  (hx:ldA σ b o n=some x):∃ v,(loadVar t ⟨g.c,o,none⟩).run P w = .ok v w∧RV μ j x v:=by
 rcases nG hn with ⟨k,rfl,ha,hs⟩ | ⟨rfl,ha⟩
 ·simp only [ldA] at hx
  split at hx
  ·rename_i l hl
   cases hx
   obtain ⟨vs,hlen,hrl,_,_,hc⟩:=hr.load hl hj
   have:=run_loadCells_list (P:=P) w ⟨g.c,o,none⟩ vs hc
   rw [hlen] at this
   exact ⟨.agg vs.toArray,by simp [loadVar,vZ ha,run_sizeOf hs,this],vs.toArray,rfl,by simpa using hrl⟩
  ·cases hx
 ·simp only [ldA] at hx
  split at hx
  ·rename_i v r hl
   cases hx
   obtain ⟨vs,hlen,hrl,_,_,hc⟩:=hr.load hl hj
   obtain ⟨u,t',rfl,h1,h2⟩:=hrl
   have:=hc 0 u (by simp)
   have e:(⟨g.c,o,none⟩:Addr).add 0=⟨g.c,o,none⟩:=rfl
   rw [e] at this
   exact ⟨u,by simp [loadVar,vZ ha,this],h1⟩
  ·cases hx
theorem fR {x:AV} {n:Nat} (h:asN x=some n) {v:Value} (hv:RV μ j x v):∃ k,v = .int k n:=by
 unfold asN at h
 split at h
 ·cases h; cases hv; exact ⟨_,rfl⟩
 ·cases h
theorem fJ {a b:IntKind} (h:eqK a b=true):a=b:=by cases a<;>cases b<;>first | rfl | simp [eqK] at h
theorem jRa {a b:Int}:eqI a b=true↔a=b:=by
 cases a<;>cases b<;>simp [eqI]<;>omega
theorem jSa {a b:Int}:ltI a b=true↔a<b:=by
 cases a<;>cases b<;>simp [ltI]<;>omega
theorem bT (a b:Int):eqI a b=(a==b):=by
 rw [Bool.eq_iff_iff,jRa,beq_iff_eq]
theorem wJ (a b:Int):ltI a b=decide (a<b):=by
 rw [Bool.eq_iff_iff,jSa,decide_eq_true_iff]
theorem jOw {n:Int} (h:jSj n=true):IntKind.i64.wrap n=n:=by
 have : -9223372036854775808≤n∧n≤9223372036854775807:=by
  cases n with
  | ofNat m=>simp [jSj] at h; constructor<;>(show _≤_; simp only [Int.ofNat_eq_natCast]; omega)
  | negSucc m=>simp [jSj] at h; constructor<;>omega
 rw [IntKind.wrap_i64]; omega
theorem jGl (k:IntKind) (n:Int):jGk k n=k.wrap n:=by
 unfold jGk
 split
 ·split
  ·rename_i h; rw [jOw h]
  ·rfl
 ·rfl
theorem uL (k:IntKind) (n:Int):mkI k n=some (.i k (k.wrap n)):=by simp only [mkI,vV,jGl]
theorem jSd (k:IntKind) (n:Int):mkR k n=some (.i k n):=by simp only [mkR,vV]
theorem jQu (a b:Int):decide (a=b)=(a==b):=by rw [Bool.eq_iff_iff]; simp
theorem lX {op:BinOp} {k:IntKind} {x y:Int} {z:AV} (h:uW op k x y=some z) (t:TypeId):∃ v,(binOp op t (.int k x) (.int k y)).run P w = .ok v w∧RV μ j z v:=by
 cases op
 case add=>simp only [uW,uL,Option.some.injEq] at h; subst h; exact ⟨.int k (k.wrap (x+y)),by simp [binOp,Op.intArith],rfl⟩
 case sub=>simp only [uW,uL,Option.some.injEq] at h; subst h; exact ⟨.int k (k.wrap (x - y)),by simp [binOp,Op.intArith],rfl⟩
 case mul=>simp only [uW,uL,Option.some.injEq] at h; subst h; exact ⟨.int k (k.wrap (x*y)),by simp [binOp,Op.intArith],rfl⟩
 case quo=>
  simp only [uW,uL,bT] at h
  split at h
  ·cases h
  ·rename_i hy
   have hy':y≠0:=by simpa using hy
   simp only [Option.some.injEq] at h; subst h
   exact ⟨.int k (k.wrap (x.tdiv y)),by simp [binOp,Op.intDiv,hy'],rfl⟩
 case rem=>
  simp only [uW,jSd,bT] at h
  split at h
  ·cases h
  ·rename_i hy
   have hy':y≠0:=by simpa using hy
   simp only [Option.some.injEq] at h; subst h
   exact ⟨.int k (x.tmod y),by simp [binOp,Op.intDiv,hy'],rfl⟩
 case and=>simp only [uW,pO,uL,Option.some.injEq] at h; subst h; exact ⟨_,by simp only [binOp,Op.intBits,ne_eq,not_true_eq_false,if_false]; exact Sem.run_pure P w _,rfl⟩
 case or=>simp only [uW,pO,uL,Option.some.injEq] at h; subst h; exact ⟨_,by simp only [binOp,Op.intBits,ne_eq,not_true_eq_false,if_false]; exact Sem.run_pure P w _,rfl⟩
 case xor=>simp only [uW,pO,uL,Option.some.injEq] at h; subst h; exact ⟨_,by simp only [binOp,Op.intBits,ne_eq,not_true_eq_false,if_false]; exact Sem.run_pure P w _,rfl⟩
 case andNot=>simp only [uW,pO,uL,Option.some.injEq] at h; subst h; exact ⟨_,by simp only [binOp,Op.intBits,ne_eq,not_true_eq_false,if_false]; exact Sem.run_pure P w _,rfl⟩
 case eql=>simp only [uW,bT,Option.some.injEq] at h; subst h; exact ⟨.bool (x==y),by simp [binOp,Op.intCmp],rfl⟩
 case neq=>simp only [uW,bT,Option.some.injEq] at h; subst h; exact ⟨.bool (x != y),by simp [binOp,Op.intCmp],rfl⟩
 case lss=>simp only [uW,wJ,Option.some.injEq] at h; subst h; exact ⟨.bool (x<y),by simp [binOp,Op.intCmp],rfl⟩
 case leq=>simp only [uW,wJ,Option.some.injEq] at h; subst h; exact ⟨.bool (x≤y),by simp [binOp,Op.intCmp],by show _=_; congr 1; rw [Bool.eq_iff_iff]; simp⟩
 case gtr=>simp only [uW,wJ,Option.some.injEq] at h; subst h; exact ⟨.bool (x > y),by simp [binOp,Op.intCmp],rfl⟩
 case geq=>simp only [uW,wJ,Option.some.injEq] at h; subst h; exact ⟨.bool (x ≥ y),by simp [binOp,Op.intCmp],by show _=_; congr 1; rw [Bool.eq_iff_iff]; simp⟩
 case shl=>cases h
 case shr=>cases h
theorem jSb:∀ (x y:List UInt8),ltL (x.map UInt8.toNat) (y.map UInt8.toNat)=Op.bytesLess x y
 | [],[]=>rfl
 | [],_::_=>rfl
 | _::_,[]=>rfl
 | a::x,b::y=>by
  simp only [List.map_cons,ltL,Op.bytesLess,jSb x y]
  have e1:Nat.blt a.toNat b.toNat=decide (a<b):=by rw [Bool.eq_iff_iff,Nat.blt_eq,decide_eq_true_iff]; exact UInt8.lt_iff_toNat_lt.symm
  have e2:Nat.beq a.toNat b.toNat=(a==b):=by rw [Bool.eq_iff_iff,Nat.beq_eq,beq_iff_eq]; exact UInt8.toNat_inj
  rw [e1,e2]
theorem toList_data (s:ByteArray):s.toList=s.data.toList:=ByteArray.toList_eq s
theorem qHi {s u:ByteArray}:ltS s.size (qF s.data.toList) u.size (qF u.data.toList)=Op.bytesLess s.data.toList u.data.toList:=by
 unfold ltS
 have e1:s.size=s.data.toList.length:=by simp
 have e2:u.size=u.data.toList.length:=by simp
 rw [e1,e2,uY,uY,jSb]
theorem rU {s u:ByteArray}:eqS s.size (qF s.data.toList) u.size (qF u.data.toList)=(s.data.toList==u.data.toList):=by
 have e1:s.size=s.data.toList.length:=by simp
 have e2:u.size=u.data.toList.length:=by simp
 rw [Bool.eq_iff_iff,beq_iff_eq]
 unfold eqS
 rw [Bool.and_eq_true,Nat.beq_eq,Nat.beq_eq,e1,e2]
 exact ⟨fun h=>tG h.1 h.2,fun h=>by rw [h]; exact ⟨rfl,rfl⟩⟩
theorem jHb {op:BinOp} {n v m u':Nat} {z:AV} (h:jUj op n v m u'=some z) (t:TypeId) {s u:ByteArray} (hx1:s.size=n) (hx2:qF s.data.toList=v) (hy1:u.size=m) (hy2:qF u.data.toList=u') :
  ∃ v,(binOp op t (.string s) (.string u)).run P w = .ok v w∧RV μ j z v:=by
 subst hx1
 subst hx2
 subst hy1
 subst hy2
 cases op<;>simp only [jUj,rU,qHi] at h<;>first | (cases h; done) | skip
 case add=>
  split at h
  ·rename_i hl
   rw [gL] at h
   simp only [Option.some.injEq] at h; subst h
   have hl':s.size+u.size≤140737488355328:=by simpa using hl
   refine ⟨.string (s++u),?_,⟨_,rfl,by simp [ByteArray.size_append],?_⟩⟩
   ·simp only [binOp]
    exact run_string_add_sum w s u (by omega)
   ·have e1:s.size=s.data.toList.length:=by simp
    have:(s++u).data.toList=s.data.toList++u.data.toList:=by simp
    rw [this,fI,←e1]
    rfl
  ·cases h
 all_goals
  simp only [Option.some.injEq] at h; subst h
  simp only [binOp,Op.stringOp,toList_data]
  exact ⟨_,Sem.run_pure P w _,rfl⟩
theorem zX {op:BinOp} {t:TypeId} {p q:Operand} {u v:Value} (h1:∀ c,u ≠ .agg c) (h2:u ≠ .nilIface):(eqGuard op t p q u v).run P w = .ok () w:=by
 unfold eqGuard
 cases op<;>cases u<;>first | rfl | (exact absurd rfl h2) | (exact absurd rfl (h1 _)) | skip
theorem nC:∀ {l:List AV} {r:Nat},dR l=some r→∀ {vs:List Value},RL μ j l vs→∃ bs:List UInt8,vs=bs.map (fun b=>Value.int .u8 b.toNat)∧qF bs=r
 | [],r,h,vs,hv=>by cases h; cases hv; exact ⟨[],rfl,rfl⟩
 | x::l,r,h,vs,hv=>by
  unfold dR at h
  split at h
  ·rename_i heq; cases heq
  ·rename_i n l' heq
   cases heq
   split at h
   ·rename_i hn
    split at h
    ·rename_i r' hr
     rw [jU] at h
     cases h
     obtain ⟨v,t,rfl,h1,h2⟩:=hv
     cases h1
     obtain ⟨bs,e1,e2⟩:=nC hr h2
     have hn':n<256:=by simpa using hn
     refine ⟨UInt8.ofNat n::bs,?_,?_⟩
     ·simp only [List.map_cons,e1]
      congr 2
      show Int.ofNat n=_
      simp only [UInt8.toNat_ofNat',Int.ofNat_eq_natCast]
      congr 1; omega
     ·rw [zW,e2,UInt8.toNat_ofNat',Nat.mod_eq_of_lt (by omega)]
      rfl
    ·cases h
   ·cases h
  ·cases h
theorem jDk:∀ (bs:List UInt8),RL μ j (u8s (bs.map UInt8.toNat)) (bs.map fun b=>Value.int .u8 b.toNat)
 | []=>rfl
 | b::bs=>⟨_,_,rfl,rfl,jDk bs⟩
theorem gS {x:AV} {k:IntKind} {lo hi:Nat} {u:Value} (h:sI x=some (k,lo,hi)) (hu:RV μ j x u):∃ n:Int,u = .int k n∧(lo:Int)≤n∧n≤(hi:Int):=by
 unfold sI at h
 split at h
 ·cases h
  cases hu
  exact ⟨_,rfl,Int.le_refl _,Int.le_refl _⟩
 ·cases h
  obtain ⟨n,_,rfl,h1,h2⟩:=hu
  exact ⟨n,rfl,h1,h2⟩
 ·cases h
theorem jMi {x y:AV} {k k':IntKind} {n m:Int} (h:jMh x y=true) (hx:RV μ j x (.int k n)) (hy:RV μ j y (.int k' m)):n=m:=by
 unfold jMh at h
 split at h
 ·obtain rfl:=Nat.eq_of_beq_eq_true h
  obtain ⟨n1,e1,e2,_⟩:=hx
  obtain ⟨n2,e3,e4,_⟩:=hy
  cases e2
  cases e4
  exact e1.inj e3
 ·cases h
section
variable {lo hi lo' hi':Nat} {n m:Int} {r s:Bool}
theorem aU (h:jAh s lo hi lo' hi'=some r) (h1:(lo:Int)≤n) (h2:n≤(hi:Int)) (h3:(lo':Int)≤m) (h4:m≤(hi':Int)) (hs:s=true→n=m):decide (n=m)=r:=by
 unfold jAh at h
 split at h
 ·rename_i e
  cases h
  simpa using hs e
 ·split at h
  ·rename_i e
   cases h
   simp only [Bool.or_eq_true,Nat.blt_eq] at e
   have:¬ n=m:=by omega
   simpa using this
  ·split at h<;>cases h
   rename_i e
   simp only [Bool.and_eq_true,Nat.beq_eq] at e
   rename_i e1
   simp only [Bool.or_eq_true,Nat.blt_eq] at e1
   have:n=m:=by omega
   simpa using this
theorem jEp (h:jHj lo hi lo' hi'=some r) (h1:(lo:Int)≤n) (h2:n≤(hi:Int)) (h3:(lo':Int)≤m) (h4:m≤(hi':Int)):decide (n<m)=r:=by
 unfold jHj at h
 split at h
 ·rename_i e
  cases h
  rw [Nat.blt_eq] at e
  simp; omega
 ·split at h<;>cases h
  rename_i e
  rw [Nat.ble_eq] at e
  simp; omega
theorem jEo (h:jHi lo hi lo' hi'=some r) (h1:(lo:Int)≤n) (h2:n≤(hi:Int)) (h3:(lo':Int)≤m) (h4:m≤(hi':Int)):decide (n≤m)=r:=by
 unfold jHi at h
 split at h
 ·rename_i e
  cases h
  rw [Nat.ble_eq] at e
  simp; omega
 ·split at h<;>cases h
  rename_i e
  rw [Nat.blt_eq] at e
  simp; omega
end
theorem jFl {b:Option Bool} {r:Bool} (h:qEb b=some r):b=some (!r):=by
 unfold qEb at h
 split at h<;>cases h
 simp
theorem rM {b:Option Bool} {z:AV} (h:iY b=some z):∃ r,b=some r∧z = .b r:=by
 unfold iY at h
 split at h<;>cases h
 exact ⟨_,rfl,rfl⟩
theorem jSr {o:BinOp} {x y:AV} {r:Bool} {u v:Value} (h:jMe o x y=some r) (hu:RV μ j x u) (hv:RV μ j y v):∃ k n m,u = .int k n∧v = .int k m∧uW o k n m=some (.b r):=by
 unfold jMe at h
 split at h
 ·rename_i k a b k' c d hx hy
  split at h
  ·rename_i hk
   obtain rfl:=fJ hk
   obtain ⟨n,rfl,h1,h2⟩:=gS hx hu
   obtain ⟨m,rfl,h3,h4⟩:=gS hy hv
   have hs:jMh x y=true→n=m:=fun e=>jMi e hu hv
   refine ⟨k,n,m,rfl,rfl,?_⟩
   cases o<;>simp only [qKm] at h<;>first | (cases h; done) | skip
   case eql=>simp only [uW,bT,←aU h h1 h2 h3 h4 hs,jQu]
   case neq=>
    have:=aU (jFl h) h1 h2 h3 h4 hs
    simp only [uW,bT,←jQu,this,Bool.not_not]
   case lss=>simp only [uW,wJ,jEp h h1 h2 h3 h4]
   case leq=>
    have:=jEo h h1 h2 h3 h4
    simp only [uW,wJ,←this]
    congr 2
    rw [Bool.eq_iff_iff]; simp
   case gtr=>simp only [uW,wJ,jEp h h3 h4 h1 h2]
   case geq=>
    have:=jEo h h3 h4 h1 h2
    simp only [uW,wJ,←this]
    congr 2
    rw [Bool.eq_iff_iff]; simp
  ·cases h
 ·cases h
theorem nH {x y:AV} {r:Bool} (h:jXh x y=some r) {p q:UInt8} (hx:RV μ j x (.int .u8 p.toNat)) (hy:RV μ j y (.int .u8 q.toNat)):(p==q)=r:=by
 unfold jXh at h
 split at h
 ·rename_i k a b k' c d hx' hy'
  split at h
  ·obtain ⟨n,e1,h1,h2⟩:=gS hx' hx
   obtain ⟨m,e2,h3,h4⟩:=gS hy' hy
   cases e1
   cases e2
   have:=aU h h1 h2 h3 h4 (fun e=>jMi e hx hy)
   rw [←this,Bool.eq_iff_iff,beq_iff_eq,decide_eq_true_iff,←UInt8.toNat_inj]
   omega
  ·cases h
 ·cases h
theorem tH:∀ {l m:List AV} {r:Bool} {bs cs:List UInt8},jUt l m=some r→RL μ j l (bs.map fun b=>Value.int .u8 b.toNat)→RL μ j m (cs.map fun b=>Value.int .u8 b.toNat)→(bs==cs)=r
 | [],[],r,bs,cs,h,h1,h2=>by
  cases h
  have e1:bs=[]:=by simpa using (show (bs.map fun b=>Value.int .u8 b.toNat)=[] from h1)
  have e2:cs=[]:=by simpa using (show (cs.map fun b=>Value.int .u8 b.toNat)=[] from h2)
  rw [e1,e2]; rfl
 | [],y::t,r,bs,cs,h,h1,h2=>by
  cases h
  have e1:bs=[]:=by simpa using (show (bs.map fun b=>Value.int .u8 b.toNat)=[] from h1)
  obtain ⟨v,w,e2,_⟩:=h2
  cases cs with
  | nil=>cases e2
  | cons c cs=>rw [e1]; rfl
 | x::t,[],r,bs,cs,h,h1,h2=>by
  cases h
  have e1:cs=[]:=by simpa using (show (cs.map fun b=>Value.int .u8 b.toNat)=[] from h2)
  obtain ⟨v,w,e2,_⟩:=h1
  cases bs with
  | nil=>cases e2
  | cons c bs=>rw [e1]; rfl
 | x::l,y::m,r,bs,cs,h,h1,h2=>by
  obtain ⟨v,w,e1,hv,hw⟩:=h1
  obtain ⟨v',w',e2,hv',hw'⟩:=h2
  cases bs with
  | nil=>cases e1
  | cons b bs=>
   cases cs with
   | nil=>cases e2
   | cons c cs=>
    simp only [List.map_cons,List.cons.injEq] at e1 e2
    obtain ⟨rfl,rfl⟩:=e1
    obtain ⟨rfl,rfl⟩:=e2
    simp only [jUt] at h
    have e3:(b::bs==c::cs)=((b==c)&&(bs==cs)):=rfl
    rw [e3]
    split at h
    ·rename_i hc
     cases h
     rw [nH hc hv hv']; rfl
    ·rename_i hc
     rw [nH hc hv hv',tH h hw hw']; rfl
    ·split at h<;>cases h
     rename_i hc
     rw [tH hc hw hw',Bool.and_false]
theorem oX {x:AV} {l:List AV} {u:Value} (h:fH x=some l) (hu:RV μ j x u):∃ s:ByteArray,u = .string s∧RL μ j l (s.data.toList.map fun b=>Value.int .u8 b.toNat):=by
 unfold fH at h
 split at h
 ·split at h<;>cases h
  obtain ⟨s,rfl,e1,e2⟩:=hu
  refine ⟨s,rfl,?_⟩
  rw [←e1,←e2,show s.size=s.data.toList.length from by simp,uY]
  exact jDk _
 ·cases h
  exact hu
 ·cases h
theorem jBv:∀ {a b:List UInt8},(a.map fun b=>Value.int .u8 b.toNat)=(b.map fun b=>Value.int .u8 b.toNat)→a=b
 | [],[],_=>rfl
 | [],_::_,h=>by cases h
 | _::_,[],h=>by cases h
 | x::a,y::b,h=>by
  simp only [List.map_cons,List.cons.injEq,Value.int.injEq,true_and] at h
  rw [jBv h.2,UInt8.toNat_inj.1 (by omega:x.toNat=y.toNat)]
theorem jSe {l:List AV} {s:ByteArray} (h:RL μ j l (s.data.toList.map fun b=>Value.int .u8 b.toNat)):RV μ j (qEa l) (.string s):=by
 unfold qEa
 split
 ·rename_i v hv
  obtain ⟨bs,e1,e2⟩:=nC hv h
  have e3:s.data.toList=bs:=by
   exact jBv e1
  have e4:=RL.len _ _ h
  refine ⟨s,rfl,?_,by rw [e3]; exact e2⟩
  rw [wH,Nat.add_zero,←e4]; simp
 ·exact ⟨s,rfl,h⟩
theorem qDb {op:BinOp} {x y z:AV} (h:qGk op x y=some z) (t:TypeId) {u v:Value} (hu:RV μ j x u) (hv:RV μ j y v) (p q:Operand) :
  ∃ r,(do eqGuard op t p q u v; binOp op t u v:Sem Value).run P w = .ok r w∧RV μ j z r:=by
 have ints:∀ {o:BinOp} {r:Bool},jMe o x y=some r→∃ c,(do eqGuard o t p q u v; binOp o t u v:Sem Value).run P w = .ok c w∧RV μ j (.b r) c:=by
  intro o r hr
  obtain ⟨k,n,m,rfl,rfl,hb⟩:=jSr hr hu hv
  simp only [Sem.run_bind,zX (u:=.int k n) (v:=.int k m) (by simp) (by simp),Result.andThen_ok]
  exact lX hb t
 have strs:∀ {a b:List AV},fH x=some a→fH y=some b→∃ s1 s2:ByteArray,u = .string s1∧v = .string s2∧RL μ j a (s1.data.toList.map fun b=>Value.int .u8 b.toNat)∧RL μ j b (s2.data.toList.map fun b=>Value.int .u8 b.toNat):=by
  intro a b ha hb
  obtain ⟨s1,h1,h2⟩:=oX ha hu
  obtain ⟨s2,h3,h4⟩:=oX hb hv
  exact ⟨s1,s2,h1,h3,h2,h4⟩
 have eqs:∀ {o:BinOp} {r g:Bool},qDm x y=some r→(o=if g then .neq else .eql)→∃ c,(do eqGuard o t p q u v; binOp o t u v:Sem Value).run P w = .ok c w∧RV μ j (.b (if g then !r else r)) c:=by
  intro o r g hr ho
  unfold qDm at hr
  split at hr
  ·rename_i a b ha hb
   obtain ⟨s1,s2,rfl,rfl,h1,h2⟩:=strs ha hb
   have he:=tH hr h1 h2
   simp only [Sem.run_bind,zX (u:=.string s1) (v:=.string s2) (by simp) (by simp),Result.andThen_ok]
   subst ho
   cases g
   ·refine jHb (op:=.eql) (n:=s1.size) (v:=qF s1.data.toList) (m:=s2.size) (u':=qF s2.data.toList) ?_ t rfl rfl rfl rfl
    simp only [jUj,rU,he]; rfl
   ·refine jHb (op:=.neq) (n:=s1.size) (v:=qF s1.data.toList) (m:=s2.size) (u':=qF s2.data.toList) ?_ t rfl rfl rfl rfl
    simp only [jUj,rU,he]; rfl
  ·subst ho
   cases g
   ·exact ints hr
   ·obtain ⟨k,n,m,rfl,rfl,hb⟩:=jSr hr hu hv
    simp only [Sem.run_bind,zX (u:=.int k n) (v:=.int k m) (by simp) (by simp),Result.andThen_ok]
    refine lX (op:=.neq) ?_ t
    simp only [uW,Option.some.injEq,AV.b.injEq] at hb ⊢
    rw [hb]; rfl
 cases op<;>simp only [qGk] at h<;>first | (cases h; done) | skip
 case add=>
  unfold qKi at h
  split at h
  ·rename_i c q lo hi
   split at h
   ·rename_i hl
    cases h
    cases hu
    obtain ⟨n,e1,rfl,g1,g2⟩:=hv
    have hl':hi+c≤9223372036854775807:=by simpa using hl
    simp only [Sem.run_bind,zX (u:=.int .i64 (.ofNat c)) (v:=.int .i64 n) (by simp) (by simp),Result.andThen_ok]
    have hb:uW .add .i64 (.ofNat c) n=some (.i .i64 ((c:Int)+n)):=by
     show mkI .i64 (Int.ofNat c+n)=_
     have e:jGk .i64 (Int.ofNat c+n)=(c:Int)+n:=by
      have e2:Int.ofNat c=(c:Int):=rfl
      rw [e2]
      rw [jGl]
      simp [IntKind.wrap,IntKind.signed,IntKind.bits]
      omega
     unfold mkI
     rw [vV,e]
    obtain ⟨r,h1,h2⟩:=lX (P:=P) (μ:=μ) (j:=j) (w:=w) hb t
    cases h2
    refine ⟨_,h1,(c:Int)+n,e1.add c,rfl,?_,?_⟩
    ·show ((lo+c:Nat):Int)≤_; omega
    ·show _≤((hi+c:Nat):Int); omega
   ·cases h
  unfold qKl at h
  split at h
  ·rename_i a b ha hb
   split at h
   ·rename_i hl
    cases h
    obtain ⟨s1,s2,rfl,rfl,h1,h2⟩:=strs ha hb
    have l1:=RL.len _ _ h1
    have l2:=RL.len _ _ h2
    simp only [List.length_map,Array.length_toList] at l1 l2
    have hl':s1.size+s2.size≤140737488355328:=by
     simp only [wH,Nat.add_zero,Nat.ble_eq] at hl
     have e1:s1.data.size=s1.size:=rfl
     have e2:s2.data.size=s2.size:=rfl
     have:a.length+b.length≤140737488355328:=hl
     omega
    simp only [Sem.run_bind,zX (u:=.string s1) (v:=.string s2) (by simp) (by simp),Result.andThen_ok]
    refine ⟨.string (s1++s2),?_,jSe ?_⟩
    ·simp only [binOp]
     exact run_string_add_sum w s1 s2 (by omega)
    ·have:(s1++s2).data.toList=s1.data.toList++s2.data.toList:=by simp
     rw [this,List.map_append]
     exact h1.append h2
   ·cases h
  ·cases h
 case eql=>
  obtain ⟨r,hr,rfl⟩:=rM h
  exact eqs (g:=false) hr rfl
 case neq=>
  obtain ⟨r,hr,rfl⟩:=rM h
  have:=eqs (o:=.neq) (g:=true) (jFl hr) rfl
  simpa using this
 all_goals
  obtain ⟨r,hr,rfl⟩:=rM h
  exact ints hr
theorem jQh {op:BinOp} {x y z:AV} (h:jUi op x y=some z) (t:TypeId) {u v:Value} (hu:RV μ j x u) (hv:RV μ j y v) (p q:Operand) :
  ∃ r,(do eqGuard op t p q u v; binOp op t u v:Sem Value).run P w = .ok r w∧RV μ j z r:=by
 unfold jUi at h
 split at h
 ·rename_i k a k' b
  cases hu
  cases hv
  simp only [Sem.run_bind,zX (u:=.int k a) (v:=.int k' b) (by simp) (by simp),Result.andThen_ok]
  split at h
  ·rename_i hs
   split at h
   ·cases h
   ·rename_i hb
    have hb':¬ b<0:=fun e=>hb (jSa.2 e)
    split at h
    ·simp only [uL,Option.some.injEq] at h; subst h
     exact ⟨.int k (k.wrap (a*2^min b.toNat k.bits)),by simp [binOp,Op.shift,hb'],rfl⟩
    ·simp only [jSd,Option.some.injEq] at h; subst h
     exact ⟨.int k (a.fdiv (2^min b.toNat k.bits)),by simp [binOp,Op.shift,hb'],rfl⟩
    ·cases h
  ·split at h
   ·rename_i hk
    obtain rfl:=fJ hk
    exact lX h t
   ·cases h
 ·obtain ⟨s1,rfl,e1,e1'⟩:=hu
  obtain ⟨s2,rfl,e2,e2'⟩:=hv
  simp only [Sem.run_bind,zX (u:=.string s1) (v:=.string s2) (by simp) (by simp),Result.andThen_ok]
  exact jHb h t e1 e1' e2 e2'
 ·exact qDb h t hu hv p q
theorem qGt {t:TypeId} (ht:P.underlying t=some .bool) (a b:Bool):(Op.equal t (.bool a) (.bool b)).run P w = .ok (a==b) w:=by
 have h:∀ d:Nat,(Op.equalIn (d+1) t (.bool a) (.bool b)).run P w = .ok (a==b) w:=fun d=>by simp [Op.equalIn,run_underlying ht]
 exact h 9999
theorem pU (off:Nat):∀ (L:List Value) (s:Nat) (A:Array Value),off+s+L.length≤A.size →
  ((L.zipIdx s).foldl (fun cs (x:Value×Nat)=>cs.setIfInBounds (off+x.2) x.1) A).size=A.size ∧
  ∀ k,((L.zipIdx s).foldl (fun cs (x:Value×Nat)=>cs.setIfInBounds (off+x.2) x.1) A)[k]?=if off+s≤k∧k<off+s+L.length then L[k - (off+s)]? else A[k]?
 | [],s,A,h=>⟨rfl,fun k=>by simp; intro h1 h2; omega⟩
 | v::L,s,A,h=>by
  simp only [List.length_cons] at h
  obtain ⟨h1,h2⟩:=pU off L (s+1) (A.setIfInBounds (off+s) v) (by simp; omega)
  refine ⟨by simpa using h1,fun k=>?_⟩
  simp only [List.zipIdx_cons,List.foldl_cons,h2 k,List.length_cons]
  by_cases e:k=off+s
  ·subst e
   rw [if_neg (by omega),if_pos ⟨by omega,by omega⟩,Array.getElem?_setIfInBounds_self_of_lt (by omega)]
   simp
  ·rw [Array.getElem?_setIfInBounds_ne (Ne.symm e)]
   by_cases e2:off+(s+1)≤k∧k<off+(s+1)+L.length
   ·rw [if_pos e2,if_pos ⟨by omega,by omega⟩,show k - (off+s)=(k - (off+(s+1)))+1 from by omega]
    simp
   ·rw [if_neg e2,if_neg (by omega)]
inductive jEf (place:Nat→Option (Nat×Nat)):List (Nat×Operand)→List (Nat×Nat×X)→Prop where
 | nil:jEf place [] []
 | cons {i off n:Nat} {x:Operand} {y:X} {r:List (Nat×Operand)} {ps:List (Nat×Nat×X)} (hp:place i=some (off,n)) (hx:xOf x=some y) (hr:jEf place r ps):jEf place ((i,x)::r) ((off,n,y)::ps)
theorem oE (hμ:yF μ) (place:Nat→Option (Nat×Nat)) (ht:RT μ j τ a):∀ (parts:List (Nat×Operand)) (ps:List (Nat×Nat×X)) (z l:List AV) (zc:Array Value),
  jEf place parts ps→wT τ ps z=some l→RL μ j z zc.toList →
  ∃ cells,Instr.fill place zc (parts.map fun p=>(p.1,a.eval p.2))=some cells∧RL μ j l cells.toList
 | [],ps,z,l,zc,hf,h,hz=>by
  cases hf
  simp only [wT,Option.some.injEq] at h; subst h
  exact ⟨zc,rfl,hz⟩
 | (i,x)::r,ps,z,l,zc,hf,h,hz=>by
  cases hf with
  | cons hp1 hp2 hr=>
   rename_i off n y ps
   simp only [wT] at h
   split at h
   ·rename_i hc
    simp only [Bool.and_eq_true] at hc
    split at h
    ·rename_i z' hput
     have hx:=(jJ hp2 ht).cells hμ
     have hlen:(a.eval x).cells.size=n:=by
      have:=RL.len _ _ hx
      rw [yB _ _ hc.1] at this
      simpa using this
     have hzl:zc.size=z.length:=by simpa using RL.len _ _ hz
     have hol:=(gR _ _ _ _ hput).2
     rw [yB _ _ hc.1] at hol
     obtain ⟨g1,g2⟩:=pU off (a.eval x).cells.toList 0 zc (by simp; omega)
     have e1:(a.eval x).cells.zipIdx.foldl (fun cs (x:Value×Nat)=>cs.setIfInBounds (off+x.2) x.1) zc=((a.eval x).cells.toList.zipIdx 0).foldl (fun cs (x:Value×Nat)=>cs.setIfInBounds (off+x.2) x.1) zc:=by
      rw [←Array.foldl_toList]; simp
     have hz':RL μ j z' ((a.eval x).cells.zipIdx.foldl (fun cs (x:Value×Nat)=>cs.setIfInBounds (off+x.2) x.1) zc).toList:=by
      rw [e1]
      refine RL.of_nth _ _ (by rw [yQ hput]; simp only [Array.length_toList]; rw [g1,hzl]) fun k b hb=>?_
      rw [yC hput,yB _ _ hc.1] at hb
      rw [Array.getElem?_toList,g2 k]
      by_cases e:off≤k∧k<off+n
      ·rw [if_pos e] at hb
       rw [if_pos ⟨by omega,by simp; omega⟩]
       exact RL.nth _ _ hx _ _ hb
      ·rw [if_neg e] at hb
       rw [if_neg (by simp; omega)]
       have:=RL.nth _ _ hz k b hb
       simpa using this
     obtain ⟨cells,hfl,hrl⟩:=oE hμ place ht r ps z' l _ hr h hz'
     refine ⟨cells,?_,hrl⟩
     simp only [List.map_cons,Instr.fill,hp1]
     rw [if_neg (by simp only [Bool.or_eq_true,decide_eq_true_eq,not_or]; exact ⟨by simp [hlen],by omega⟩)]
     exact hfl
    ·cases h
   ·cases h
theorem aO {t:Nat} {z:List AV} (h:bA P t=some z):∃ i v,P.info? t=some i∧i.zero=some v∧RL μ j z v.cells.toList∧jN z=true:=by
 unfold bA at h
 split at h
 ·rename_i i hi
  split at h
  ·rename_i v hv
   exact ⟨i,v,hi,hv,(lU h).1,(lU (μ:=μ) (j:=j) h).2⟩
  ·cases h
 ·cases h
end
end
end Go.Proofs.YtngfdcnglojcaaaGreatDoor.Ev
