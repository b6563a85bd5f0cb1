/-
The operations of the small language that leave memory as it is are the model's. No program is named here.
-/
import Derived.Test.YtdlhiljbhepliaaGreatDoorEvB
import Derived.Test.YtdlhiljbhepliaaGreatDoorEvC
import Derived.Test.YtdlhiljbhepliaaGreatDoorMem
set_option linter.all false
namespace Go.Proofs.YtdlhiljbhepliaaGreatDoor.Ev
noncomputable section
open Go Go.RowKit
section
variable {μ:Mu} {j:J}
theorem jTk:∀ {v:Value} {x:AV},qGb v=some x→RV μ j x v∧x.one=true:=by
 intro v x h;unfold qGb at h;split at h<;>first | (cases h; done) | (simp only [Option.some.injEq] at h; subst h; exact ⟨rfl,rfl⟩) | (simp only [Option.some.injEq] at h; subst h; exact ⟨.inl ⟨rfl,rfl⟩,rfl⟩) | (rw [nY] at h; simp only [Option.some.injEq] at h; subst h; exact ⟨⟨_,rfl,by simp,rfl⟩,rfl⟩)
theorem jBa:∀ {l:List Value} {x:List AV},jZx l=some x→RL μ j x l∧jS x=true
 | [],x,h=>by cases h; exact ⟨rfl,rfl⟩
 | v::r,x,h=>by
  simp only [jZx] at h;split at h
  ·rename_i a b ha hb;cases h;obtain ⟨h1,h2⟩:=jTk (μ:=μ) (j:=j) ha;obtain ⟨h3,h4⟩:=jBa hb;exact ⟨⟨v,r,rfl,h1,h3⟩,by simp [jS,h2,h4]⟩
  ·cases h
theorem qGc {v:Value} {x:AV} (h:qKu v=some x):RV μ j x v:=by
 unfold qKu at h;split at h
 ·split at h
  ·rename_i l hl;cases h;exact ⟨_,rfl,(jBa hl).1⟩
  ·cases h
 ·exact (jTk h).1
def RT (μ:Mu) (j:J) (τ:T) (a:Act):Prop:=∀ t,RV μ j ((X.t t).ev τ) (a.tmps.getD t undef)
theorem RT.mono {j':J} {τ:T} {a:Act} (h:RT μ j τ a) (hj:j.le j'):RT μ j' τ a:=fun t=>(h t).mono hj
theorem qM {x:Operand} {y:X} (h:xOf x=some y) {τ:T} {a:Act} (ht:RT μ j τ a):RV μ j (y.ev τ) (a.eval x):=by
 cases x with
 | tmp t=>simp only [xOf,Option.some.injEq] at h; subst h; exact ht t
 | const v=>
  simp only [xOf] at h;split at h
  ·rename_i z hz;cases h;exact qGc hz
  ·cases h
 | global g=>cases h
 | func f=>simp only [xOf,Option.some.injEq] at h; subst h; exact ⟨#[], #[],rfl,rfl,rfl⟩
theorem nC:∀ {x:List Operand} {y:List X},jGh x=some y→∀ {τ:T} {a:Act},RT μ j τ a→RL μ j (evs τ y) (x.map a.eval)
 | [],y,h,τ,a,_=>by cases h; rfl
 | x::r,y,h,τ,a,ht=>by
  simp only [jGh] at h;split at h
  ·rename_i u v hu hv;cases h;exact ⟨_,_,rfl,qM hu ht,nC hv ht⟩
  ·cases h
theorem RT.put {τ:T} {a:Act} (ht:RT μ j τ a) {d:Option Nat} {nt:Nat} (hd:aY nt d=true) (hn:a.tmps.size=nt) {x:AV} {v:Value} (hv:RV μ j x v):RT μ j (dO τ d x) (a.put d v):=by
 cases d with
 | none=>exact ht
 | some d=>
  simp only [aY,Bool.and_eq_true,Nat.blt_eq] at hd;intro t;have:=ht t;simp only [X.ev,dO,Tr.get_set30 _ _ _ _ (Nat.zero_le _),Act.put,Array.getD_eq_getD_getElem?] at this ⊢;by_cases e:t=d
  ·subst e;rw [if_pos rfl,Array.getElem?_setIfInBounds_self_of_lt (by omega)]
   exact hv
  ·rw [if_neg e,Array.getElem?_setIfInBounds_ne (Ne.symm e)];exact this
theorem jEx {a:Act} {d:Option Nat} {v:Value}:(a.put d v).tmps.size=a.tmps.size:=by cases d<;>simp [Act.put]
theorem aA {a:Act} {d:Option Nat} {v:Value}:(a.put d v).defers=a.defers:=by cases d<;>rfl
end
section
variable {P:Program} {μ:Mu} {B:Nat→Prop} {w0 w:World} {j:J} {σ:Mem} {τ:T} {a:Act}
def jZu (P:Program) (μ:Mu) (j:J) (o:Oper) (a:Act) (w:World) (x:AV):Prop:=∃ v,(execOp a.eval o).run P w = .ok (.value v) w∧RV μ j x v
theorem qV {o:Oper} {x:AV} {s:Sem Value} {v:Value} (h:execOp a.eval o=(do pure (.value (←s)))) (hr:s.run P w = .ok v w) (hv:RV μ j x v):jZu P μ j o a w x:=
 ⟨v,by rw [h]; simp [hr],hv⟩
theorem iQ {t n:Nat} (h:kF P t=some n):∃ i,P.info? t=some i∧i.size=n:=by
 unfold kF at h;split at h
 ·rename_i i hi; cases h; exact ⟨i,hi,rfl⟩
 ·cases h
theorem run_sizeOf {t n:Nat} (h:kF P t=some n) (w:World):(sizeOf t).run P w = .ok n w:=by
 obtain ⟨i,hi,rfl⟩:=iQ h;simp [sizeOf,typeInfo,hi]
theorem sI {t:Nat} {g:Bool} (h:qAa P t=some g) (w:World):(isAgg t).run P w = .ok g w:=by
 unfold qAa at h;split at h<;>first | (cases h; done) | (rename_i hd; simp only [Option.some.injEq] at h; subst h; simp [isAgg,run_underlying hd]) | skip
theorem lF {t:Nat} {n:Option Nat} (h:jCm P t=some n):(∃ k,n=some k∧qAa P t=some true∧kF P t=some k)∨(n=none∧qAa P t=some false):=by
 unfold jCm at h;split at h<;>cases h
 ·exact .inl ⟨_,rfl,by assumption,by assumption⟩
 ·exact .inr ⟨rfl,by assumption⟩
theorem jAs (hr:Rel μ B w0 j σ w) {t:Nat} {n:Option Nat} (hn:jCm P t=some n) {b o:Nat} {g:G} (hj:j b=some g) {x:AV}
  (hx:ldA σ b o n=some x):∃ v,(loadVar t ⟨g.c,o,none⟩).run P w = .ok v w∧RV μ j x v:=by
 rcases lF hn with ⟨k,rfl,ha,hs⟩ | ⟨rfl,ha⟩
 ·simp only [ldA] at hx;split at hx
  ·rename_i l hl;cases hx;obtain ⟨vs,hlen,hrl,_,_,hc⟩:=hr.load hl hj;have:=run_loadCells_list (P:=P) w ⟨g.c,o,none⟩ vs hc;rw [hlen] at this;exact ⟨.agg vs.toArray,by simp [loadVar,sI ha,run_sizeOf hs,this],vs.toArray,rfl,by simpa using hrl⟩
  ·cases hx
 ·simp only [ldA] at hx;split at hx
  ·rename_i v r hl;cases hx;obtain ⟨vs,hlen,hrl,_,_,hc⟩:=hr.load hl hj;obtain ⟨u,t',rfl,h1,h2⟩:=hrl;have:=hc 0 u (by simp)
   have e:(⟨g.c,o,none⟩:Addr).add 0=⟨g.c,o,none⟩:=rfl;rw [e] at this;exact ⟨u,by simp [loadVar,sI ha,this],h1⟩
  ·cases hx
theorem tL {x:AV} {n:Nat} (h:asN x=some n) {v:Value} (hv:RV μ j x v):∃ k,v = .int k n:=by
 unfold asN at h;split at h
 ·cases h; cases hv; exact ⟨_,rfl⟩
 ·cases h
theorem jBj {a b:IntKind} (h:eqK a b=true):a=b:=by cases a<;>cases b<;>first | rfl | simp [eqK] at h
theorem jUl {a b:Int}:eqI a b=true↔a=b:=by
 cases a<;>cases b<;>simp [eqI]<;>omega
theorem jVg {a b:Int}:ltI a b=true↔a<b:=by
 cases a<;>cases b<;>simp [ltI]<;>omega
theorem jBi (a b:Int):eqI a b=(a==b):=by
 rw [Bool.eq_iff_iff,jUl,beq_iff_eq]
theorem sC (a b:Int):ltI a b=decide (a<b):=by
 rw [Bool.eq_iff_iff,jVg,decide_eq_true_iff]
theorem jSa {n:Int} (h:jVp n=true):IntKind.i64.wrap n=n:=by
 have : -9223372036854775808≤n∧n≤9223372036854775807:=by
  cases n with
  | ofNat m=>simp [jVp] at h; constructor<;>(show _≤_; simp only [Int.ofNat_eq_natCast]; omega)
  | negSucc m=>simp [jVp] at h; constructor<;>omega
 rw [IntKind.wrap_i64]; omega
theorem jZr (k:IntKind) (n:Int):jQi k n=k.wrap n:=by
 unfold jQi;split
 ·split
  ·rename_i h; rw [jSa h]
  ·rfl
 ·rfl
theorem wA (k:IntKind) (n:Int):mkI k n=some (.i k (k.wrap n)):=by simp only [mkI,bZ,jZr]
theorem jVi (k:IntKind) (n:Int):mkR k n=some (.i k n):=by simp only [mkR,bZ]
theorem qGp {op:BinOp} {k:IntKind} {x y:Int} {z:AV} (h:bS op k x y=some z) (t:TypeId):∃ v,(binOp op t (.int k x) (.int k y)).run P w = .ok v w∧RV μ j z v:=by
 cases op
 case add=>simp only [bS,wA,Option.some.injEq] at h; subst h; exact ⟨.int k (k.wrap (x+y)),by simp [binOp,Op.intArith],rfl⟩
 case sub=>simp only [bS,wA,Option.some.injEq] at h; subst h; exact ⟨.int k (k.wrap (x - y)),by simp [binOp,Op.intArith],rfl⟩
 case mul=>simp only [bS,wA,Option.some.injEq] at h; subst h; exact ⟨.int k (k.wrap (x*y)),by simp [binOp,Op.intArith],rfl⟩
 case quo=>
  simp only [bS,wA,jBi] at h;split at h
  ·cases h
  ·rename_i hy;have hy':y≠0:=by simpa using hy
   simp only [Option.some.injEq] at h; subst h;exact ⟨.int k (k.wrap (x.tdiv y)),by simp [binOp,Op.intDiv,hy'],rfl⟩
 case rem=>
  simp only [bS,jVi,jBi] at h;split at h
  ·cases h
  ·rename_i hy;have hy':y≠0:=by simpa using hy
   simp only [Option.some.injEq] at h; subst h;exact ⟨.int k (x.tmod y),by simp [binOp,Op.intDiv,hy'],rfl⟩
 case and=>simp only [bS,sZ,wA,Option.some.injEq] at h; subst h; exact ⟨_,by simp only [binOp,Op.intBits,ne_eq,not_true_eq_false,if_false]; exact Sem.run_pure P w _,rfl⟩
 case or=>simp only [bS,sZ,wA,Option.some.injEq] at h; subst h; exact ⟨_,by simp only [binOp,Op.intBits,ne_eq,not_true_eq_false,if_false]; exact Sem.run_pure P w _,rfl⟩
 case xor=>simp only [bS,sZ,wA,Option.some.injEq] at h; subst h; exact ⟨_,by simp only [binOp,Op.intBits,ne_eq,not_true_eq_false,if_false]; exact Sem.run_pure P w _,rfl⟩
 case andNot=>simp only [bS,sZ,wA,Option.some.injEq] at h; subst h; exact ⟨_,by simp only [binOp,Op.intBits,ne_eq,not_true_eq_false,if_false]; exact Sem.run_pure P w _,rfl⟩
 case eql=>simp only [bS,jBi,Option.some.injEq] at h; subst h; exact ⟨.bool (x==y),by simp [binOp,Op.intCmp],rfl⟩
 case neq=>simp only [bS,jBi,Option.some.injEq] at h; subst h; exact ⟨.bool (x != y),by simp [binOp,Op.intCmp],rfl⟩
 case lss=>simp only [bS,sC,Option.some.injEq] at h; subst h; exact ⟨.bool (x<y),by simp [binOp,Op.intCmp],rfl⟩
 case leq=>simp only [bS,sC,Option.some.injEq] at h; subst h; exact ⟨.bool (x≤y),by simp [binOp,Op.intCmp],by show _=_; congr 1; rw [Bool.eq_iff_iff]; simp⟩
 case gtr=>simp only [bS,sC,Option.some.injEq] at h; subst h; exact ⟨.bool (x > y),by simp [binOp,Op.intCmp],rfl⟩
 case geq=>simp only [bS,sC,Option.some.injEq] at h; subst h; exact ⟨.bool (x ≥ y),by simp [binOp,Op.intCmp],by show _=_; congr 1; rw [Bool.eq_iff_iff]; simp⟩
 case shl=>cases h
 case shr=>cases h
theorem jVh:∀ (x y:List UInt8),ltL (x.map UInt8.toNat) (y.map UInt8.toNat)=Op.bytesLess x y
 | [],[]=>rfl
 | [],_::_=>rfl
 | _::_,[]=>rfl
 | a::x,b::y=>by
  simp only [List.map_cons,ltL,Op.bytesLess,jVh x y];have e1:Nat.blt a.toNat b.toNat=decide (a<b):=by rw [Bool.eq_iff_iff,Nat.blt_eq,decide_eq_true_iff]; exact UInt8.lt_iff_toNat_lt.symm
  have e2:Nat.beq a.toNat b.toNat=(a==b):=by rw [Bool.eq_iff_iff,Nat.beq_eq,beq_iff_eq]; exact UInt8.toNat_inj
  rw [e1,e2]
theorem toList_data (s:ByteArray):s.toList=s.data.toList:=ByteArray.toList_eq s
theorem qLs {s u:ByteArray}:ltS s.size (zQ s.data.toList) u.size (zQ u.data.toList)=Op.bytesLess s.data.toList u.data.toList:=by
 unfold ltS;have e1:s.size=s.data.toList.length:=by simp
 have e2:u.size=u.data.toList.length:=by simp
 rw [e1,e2,jCt,jCt,jVh]
theorem qLf {s u:ByteArray}:eqS s.size (zQ s.data.toList) u.size (zQ u.data.toList)=(s.data.toList==u.data.toList):=by
 have e1:s.size=s.data.toList.length:=by simp
 have e2:u.size=u.data.toList.length:=by simp
 rw [Bool.eq_iff_iff,beq_iff_eq];unfold eqS;rw [Bool.and_eq_true,Nat.beq_eq,Nat.beq_eq,e1,e2];exact ⟨fun h=>aZ h.1 h.2,fun h=>by rw [h]; exact ⟨rfl,rfl⟩⟩
theorem qGr {op:BinOp} {n v m u':Nat} {z:AV} (h:qGq op n v m u'=some z) (t:TypeId) {s u:ByteArray} (hx1:s.size=n) (hx2:zQ s.data.toList=v) (hy1:u.size=m) (hy2:zQ u.data.toList=u') :
  ∃ v,(binOp op t (.string s) (.string u)).run P w = .ok v w∧RV μ j z v:=by
 subst hx1;subst hx2;subst hy1;subst hy2;cases op<;>simp only [qGq,qLf,qLs] at h<;>first | (cases h; done) | skip
 case add=>
  split at h
  ·rename_i hl;rw [nY] at h;simp only [Option.some.injEq] at h; subst h;have hl':s.size+u.size≤140737488355328:=by simpa using hl
   refine ⟨.string (s++u),?_,⟨_,rfl,by simp [ByteArray.size_append],?_⟩⟩
   ·simp only [binOp];exact run_string_add_sum w s u (by omega)
   ·have e1:s.size=s.data.toList.length:=by simp
    have:(s++u).data.toList=s.data.toList++u.data.toList:=by simp
    rw [this,gW,←e1];rfl
  ·cases h
 all_goals
  simp only [Option.some.injEq] at h; subst h;simp only [binOp,Op.stringOp,toList_data];exact ⟨_,Sem.run_pure P w _,rfl⟩
theorem tT {op:BinOp} {t:TypeId} {p q:Operand} {u v:Value} (h1:∀ c,u ≠ .agg c) (h2:u ≠ .nilIface):(eqGuard op t p q u v).run P w = .ok () w:=by
 unfold eqGuard;cases op<;>cases u<;>first | rfl | (exact absurd rfl h2) | (exact absurd rfl (h1 _)) | skip
theorem jHd:∀ {l:List AV} {r:Nat},lE l=some r→∀ {vs:List Value},RL μ j l vs→∃ bs:List UInt8,vs=bs.map (fun b=>Value.int .u8 b.toNat)∧zQ bs=r
 | [],r,h,vs,hv=>by cases h; cases hv; exact ⟨[],rfl,rfl⟩
 | x::l,r,h,vs,hv=>by
  unfold lE at h;split at h
  ·rename_i heq; cases heq
  ·rename_i n l' heq;cases heq;split at h
   ·rename_i hn;split at h
    ·rename_i r' hr;rw [qI] at h;cases h;obtain ⟨v,t,rfl,h1,h2⟩:=hv;cases h1;obtain ⟨bs,e1,e2⟩:=jHd hr h2;have hn':n<256:=by simpa using hn
     refine ⟨UInt8.ofNat n::bs,?_,?_⟩
     ·simp only [List.map_cons,e1]
      congr 2
      show Int.ofNat n=_;simp only [UInt8.toNat_ofNat',Int.ofNat_eq_natCast]
      congr 1; omega
     ·rw [yD,e2,UInt8.toNat_ofNat',Nat.mod_eq_of_lt (by omega)]
      rfl
    ·cases h
   ·cases h
  ·cases h
theorem jTv {op:BinOp} {x y z:AV} (h:jXl op x y=some z) (t:TypeId) {u v:Value} (hu:RV μ j x u) (hv:RV μ j y v) (p q:Operand) :
  ∃ r,(do eqGuard op t p q u v; binOp op t u v:Sem Value).run P w = .ok r w∧RV μ j z r:=by
 unfold jXl at h;split at h
 ·rename_i k a k' b;cases hu;cases hv;simp only [Sem.run_bind,tT (u:=.int k a) (v:=.int k' b) (by simp) (by simp),Result.andThen_ok]
  split at h
  ·rename_i hs;split at h
   ·cases h
   ·rename_i hb;have hb':¬ b<0:=fun e=>hb (jVg.2 e);split at h
    ·simp only [wA,Option.some.injEq] at h; subst h;exact ⟨.int k (k.wrap (a*2^min b.toNat k.bits)),by simp [binOp,Op.shift,hb'],rfl⟩
    ·simp only [jVi,Option.some.injEq] at h; subst h;exact ⟨.int k (a.fdiv (2^min b.toNat k.bits)),by simp [binOp,Op.shift,hb'],rfl⟩
    ·cases h
  ·split at h
   ·rename_i hk;obtain rfl:=jBj hk;exact qGp h t
   ·cases h
 ·obtain ⟨s1,rfl,e1,e1'⟩:=hu;obtain ⟨s2,rfl,e2,e2'⟩:=hv;simp only [Sem.run_bind,tT (u:=.string s1) (v:=.string s2) (by simp) (by simp),Result.andThen_ok]
  exact qGr h t e1 e1' e2 e2'
 ·cases h
theorem qLe {t:TypeId} (ht:P.underlying t=some .bool) (a b:Bool):(Op.equal t (.bool a) (.bool b)).run P w = .ok (a==b) w:=by
 have h:∀ d:Nat,(Op.equalIn (d+1) t (.bool a) (.bool b)).run P w = .ok (a==b) w:=fun d=>by simp [Op.equalIn,run_underlying ht]
 exact h 9999
theorem tF (off:Nat):∀ (L:List Value) (s:Nat) (A:Array Value),off+s+L.length≤A.size →
  ((L.zipIdx s).foldl (fun cs (x:Value×Nat)=>cs.setIfInBounds (off+x.2) x.1) A).size=A.size ∧
  ∀ k,((L.zipIdx s).foldl (fun cs (x:Value×Nat)=>cs.setIfInBounds (off+x.2) x.1) A)[k]?=if off+s≤k∧k<off+s+L.length then L[k - (off+s)]? else A[k]?
 | [],s,A,h=>⟨rfl,fun k=>by simp; intro h1 h2; omega⟩
 | v::L,s,A,h=>by
  simp only [List.length_cons] at h;obtain ⟨h1,h2⟩:=tF off L (s+1) (A.setIfInBounds (off+s) v) (by simp; omega)
  refine ⟨by simpa using h1,fun k=>?_⟩
  simp only [List.zipIdx_cons,List.foldl_cons,h2 k,List.length_cons];by_cases e:k=off+s
  ·subst e;rw [if_neg (by omega),if_pos ⟨by omega,by omega⟩,Array.getElem?_setIfInBounds_self_of_lt (by omega)]
   simp
  ·rw [Array.getElem?_setIfInBounds_ne (Ne.symm e)];by_cases e2:off+(s+1)≤k∧k<off+(s+1)+L.length
   ·rw [if_pos e2,if_pos ⟨by omega,by omega⟩,show k - (off+s)=(k - (off+(s+1)))+1 from by omega]
    simp
   ·rw [if_neg e2,if_neg (by omega)]
inductive jGv (place:Nat→Option (Nat×Nat)):List (Nat×Operand)→List (Nat×Nat×X)→Prop where
 | nil:jGv place [] []
 | cons {i off n:Nat} {x:Operand} {y:X} {r:List (Nat×Operand)} {ps:List (Nat×Nat×X)} (hp:place i=some (off,n)) (hx:xOf x=some y) (hr:jGv place r ps):jGv place ((i,x)::r) ((off,n,y)::ps)
theorem jBl (hμ:uQ μ) (place:Nat→Option (Nat×Nat)) (ht:RT μ j τ a):∀ (parts:List (Nat×Operand)) (ps:List (Nat×Nat×X)) (z l:List AV) (zc:Array Value),
  jGv place parts ps→kZ τ ps z=some l→RL μ j z zc.toList →
  ∃ cells,Instr.fill place zc (parts.map fun p=>(p.1,a.eval p.2))=some cells∧RL μ j l cells.toList
 | [],ps,z,l,zc,hf,h,hz=>by
  cases hf;simp only [kZ,Option.some.injEq] at h; subst h;exact ⟨zc,rfl,hz⟩
 | (i,x)::r,ps,z,l,zc,hf,h,hz=>by
  cases hf with
  | cons hp1 hp2 hr=>
   rename_i off n y ps;simp only [kZ] at h;split at h
   ·rename_i hc;simp only [Bool.and_eq_true] at hc;split at h
    ·rename_i z' hput;have hx:=(qM hp2 ht).cells hμ;have hlen:(a.eval x).cells.size=n:=by
      have:=RL.len _ _ hx;rw [vB _ _ hc.1] at this;simpa using this
     have hzl:zc.size=z.length:=by simpa using RL.len _ _ hz
     have hol:=(dP _ _ _ _ hput).2;rw [vB _ _ hc.1] at hol;obtain ⟨g1,g2⟩:=tF off (a.eval x).cells.toList 0 zc (by simp; omega)
     have e1:(a.eval x).cells.zipIdx.foldl (fun cs (x:Value×Nat)=>cs.setIfInBounds (off+x.2) x.1) zc=((a.eval x).cells.toList.zipIdx 0).foldl (fun cs (x:Value×Nat)=>cs.setIfInBounds (off+x.2) x.1) zc:=by
      rw [←Array.foldl_toList]; simp
     have hz':RL μ j z' ((a.eval x).cells.zipIdx.foldl (fun cs (x:Value×Nat)=>cs.setIfInBounds (off+x.2) x.1) zc).toList:=by
      rw [e1];refine RL.of_nth _ _ (by rw [vF hput]; simp only [Array.length_toList]; rw [g1,hzl]) fun k b hb=>?_
      rw [uK hput,vB _ _ hc.1] at hb;rw [Array.getElem?_toList,g2 k];by_cases e:off≤k∧k<off+n
      ·rw [if_pos e] at hb;rw [if_pos ⟨by omega,by simp; omega⟩]
       exact RL.nth _ _ hx _ _ hb
      ·rw [if_neg e] at hb;rw [if_neg (by simp; omega)]
       have:=RL.nth _ _ hz k b hb;simpa using this
     obtain ⟨cells,hfl,hrl⟩:=jBl hμ place ht r ps z' l _ hr h hz';refine ⟨cells,?_,hrl⟩;simp only [List.map_cons,Instr.fill,hp1];rw [if_neg (by simp only [Bool.or_eq_true,decide_eq_true_eq,not_or]; exact ⟨by simp [hlen],by omega⟩)]
     exact hfl
    ·cases h
   ·cases h
theorem jGi {t:Nat} {z:List AV} (h:rF P t=some z):∃ i v,P.info? t=some i∧i.zero=some v∧RL μ j z v.cells.toList∧jS z=true:=by
 unfold rF at h;split at h
 ·rename_i i hi;split at h
  ·rename_i v hv;exact ⟨i,v,hi,hv,(jBa h).1,(jBa (μ:=μ) (j:=j) h).2⟩
  ·cases h
 ·cases h
end
end
end Go.Proofs.YtdlhiljbhepliaaGreatDoor.Ev
