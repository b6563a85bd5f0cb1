/-
What the small language's values and memory stand for in the model's worlds, and the laws of aR. No program is named here.
-/
import Derived.Test.YtdlhiljbhepliaaGreatDoorEvA
import Derived.Below
import Derived.Deep.Draws
import Derived.Laws.OwnMore
set_option linter.all false
namespace Go.Proofs.YtdlhiljbhepliaaGreatDoor.Ev
noncomputable section
open Go Go.RowKit
theorem Tr.get_e {α:Type} (k:Nat):(Tr.e:Tr α).get k=none:=by cases k<;>rfl
theorem Tr.get_succ {α:Type} (v:Option α) (l r:Tr α) (m:Nat):(Tr.n v l r).get (m+1)=if m % 2=0 then l.get (m / 2) else r.get (m / 2):=by
 by_cases q:m % 2=0<;>simp [Tr.get,q]
theorem Tr.set_zero {α:Type} (f:Nat) (v:Option α) (l r:Tr α) (x:Option α):Tr.set (f+1) (.n v l r) 0 x = .n x l r:=rfl
theorem Tr.set_e {α:Type} (f k:Nat) (x:Option α):Tr.set (f+1) (.e:Tr α) k x=Tr.set (f+1) (.n none .e .e) k x:=by
 cases k with
 | zero=>rfl
 | succ k=>by_cases q:k % 2=0<;>simp [Tr.set,q]
theorem Tr.set_succ {α:Type} (f:Nat) (v:Option α) (l r:Tr α) (k:Nat) (x:Option α):Tr.set (f+1) (.n v l r) (k+1) x=if k % 2=0 then .n v (Tr.set f l (k / 2) x) r else .n v l (Tr.set f r (k / 2) x):=by
 by_cases q:k % 2=0<;>simp [Tr.set,q]
theorem Tr.get_set {α:Type} (x:Option α):∀ (f:Nat) (t:Tr α) (k m:Nat),k+1<2^f→(Tr.set f t k x).get m=if m=k then x else t.get m:=by
 intro f
 induction f with
 | zero=>intro t k m h; simp at h
 | succ f ih=>
  have main:∀ (v:Option α) (l r:Tr α) (k m:Nat),k+1<2^(f+1)→(Tr.set (f+1) (.n v l r) k x).get m=if m=k then x else (Tr.n v l r).get m:=by
   intro v l r k m h;cases k with
   | zero=>
    rw [Tr.set_zero];cases m with
    | zero=>rfl
    | succ m=>rw [Tr.get_succ,Tr.get_succ,if_neg (by omega:¬ m+1=0)]
   | succ k=>
    have hk:k / 2+1<2^f:=by rw [Nat.pow_succ] at h; omega
    rw [Tr.set_succ];cases m with
    | zero=>
     rw [if_neg (by omega:¬ 0=k+1)]
     split<;>rfl
    | succ m=>
     by_cases p:k % 2=0
     ·rw [if_pos p,Tr.get_succ,Tr.get_succ];by_cases q:m % 2=0
      ·rw [if_pos q,if_pos q,ih _ _ _ hk];by_cases e:m=k
       ·subst e; simp
       ·rw [if_neg (by omega:¬ m / 2=k / 2),if_neg (by omega:¬ m+1=k+1)]
      ·rw [if_neg q,if_neg q,if_neg (by omega:¬ m+1=k+1)]
     ·rw [if_neg p,Tr.get_succ,Tr.get_succ];by_cases q:m % 2=0
      ·rw [if_pos q,if_pos q,if_neg (by omega:¬ m+1=k+1)]
      ·rw [if_neg q,if_neg q,ih _ _ _ hk];by_cases e:m=k
       ·subst e; simp
       ·rw [if_neg (by omega:¬ m / 2=k / 2),if_neg (by omega:¬ m+1=k+1)]
  intro t k m h;cases t with
  | e=>
   rw [Tr.set_e,main _ _ _ _ _ h];have:(Tr.n none .e .e:Tr α).get m=(Tr.e:Tr α).get m:=by
    cases m with
    | zero=>rfl
    | succ m=>rw [Tr.get_succ,Tr.get_e,Tr.get_e]; simp
   rw [this]
  | n v l r=>exact main v l r k m h
theorem jTa (k:Nat):k+1<2^(k+1):=by
 induction k with
 | zero=>decide
 | succ k ih=>rw [Nat.pow_succ]; omega
theorem Tr.get_set30 {α:Type} (x:Option α) (t:Tr α) (k m:Nat) (h:0≤k):(Tr.put t k x).get m=if m=k then x else t.get m:=
 Tr.get_set x (k+1) t k m (jTa k)
theorem yY {α:Type}:∀ (n:Nat) (l r:List α),yG n l=some r→r=l.take n∧n≤l.length
 | 0,l,r,h=>by simp [yG] at h; subst h; simp
 | n+1,[],r,h=>by simp [yG] at h
 | n+1,a::l,r,h=>by
  simp only [yG] at h;split at h
  ·rename_i r' hr;simp only [Option.some.injEq] at h;obtain ⟨e,hl⟩:=yY n l r' hr;subst h;exact ⟨by simp [e],by simp; omega⟩
  ·cases h
theorem xA {α:Type}:∀ (n:Nat) (l:List α),yB n l=l.drop n
 | 0,l=>by simp [yB]
 | n+1,[]=>by simp [yB]
 | n+1,a::l=>by simp [yB,xA n l]
theorem iD {α:Type}:∀ (n:Nat) (l:List α),jRz n l=l[n]?
 | n,[]=>by cases n<;>simp [jRz]
 | 0,a::l=>by simp [jRz]
 | n+1,a::l=>by simp [jRz,iD n l]
theorem sA {α:Type}:∀ (l:List α) (k:Nat),jKm l k=l.length+k
 | [],k=>by simp [jKm]
 | a::l,k=>by simp [jKm,sA l]; omega
theorem vB {α:Type}:∀ (n:Nat) (l:List α),xL n l=true→l.length=n
 | 0,[],_=>rfl
 | 0,_::_,h=>by simp [xL] at h
 | n+1,[],h=>by simp [xL] at h
 | n+1,a::l,h=>by simp [xL] at h; simp [vB n l h]
theorem jVt {α:Type}:∀ (vs l r:List α),jAz vs l=some r→r=vs++l.drop vs.length∧vs.length≤l.length
 | [],l,r,h=>by simp [jAz] at h; subst h; simp
 | v::vs,[],r,h=>by simp [jAz] at h
 | v::vs,a::l,r,h=>by
  simp only [jAz] at h;split at h
  ·rename_i r' hr;simp only [Option.some.injEq] at h;obtain ⟨e,hl⟩:=jVt vs l r' hr;subst h;exact ⟨by simp [e],by simp; omega⟩
  ·cases h
theorem dP {α:Type}:∀ (n:Nat) (vs l r:List α),yF n vs l=some r→r=l.take n++vs++l.drop (n+vs.length)∧n+vs.length≤l.length
 | 0,vs,l,r,h=>by
  simp only [yF] at h;obtain ⟨e,hl⟩:=jVt vs l r h;exact ⟨by simp [e],by omega⟩
 | n+1,vs,[],r,h=>by simp [yF] at h
 | n+1,vs,a::l,r,h=>by
  simp only [yF] at h;split at h
  ·rename_i r' hr;simp only [Option.some.injEq] at h;obtain ⟨e,hl⟩:=dP n vs l r' hr;subst h;refine ⟨?_,by simp; omega⟩
   rw [e,show n+1+vs.length=(n+vs.length)+1 from by omega]
   simp
  ·cases h
theorem uK {α:Type} {n:Nat} {vs l r:List α} (h:yF n vs l=some r) (i:Nat):r[i]?=if n≤i∧i<n+vs.length then vs[i - n]? else l[i]?:=by
 obtain ⟨e,hl⟩:=dP n vs l r h;subst e;by_cases h1:i<n
 ·rw [if_neg (by omega),List.append_assoc,List.getElem?_append_left (by simp; omega),List.getElem?_take,if_pos h1]
 ·by_cases h2:i<n+vs.length
  ·rw [if_pos ⟨by omega,h2⟩,List.append_assoc,List.getElem?_append_right (by simp; omega),List.getElem?_append_left (by simp; omega)]
   congr 1; simp; omega
  ·rw [if_neg (by omega),List.getElem?_append_right (by simp; omega),List.getElem?_drop]
   congr 1; simp; omega
theorem vF {α:Type} {n:Nat} {vs l r:List α} (h:yF n vs l=some r):r.length=l.length:=by
 obtain ⟨e,hl⟩:=dP n vs l r h;subst e;simp; omega
theorem qI {α:Type} (n:Nat) (k:Nat→α):qH n k=k n:=by cases n<;>rfl
theorem bZ {α:Type} (n:Int) (k:Int→α):bJ n k=k n:=by cases n<;>simp [bJ,qI]
theorem yD (b:UInt8) (r:List UInt8):zQ (b::r)=b.toNat+256*zQ r:=rfl
theorem jBh:∀ l:List UInt8,zQ l<256^l.length
 | []=>by simp [zQ]
 | b::r=>by
  have h1:=jBh r;have h2:=b.toNat_lt;rw [yD,List.length_cons,Nat.pow_succ];omega
theorem gW:∀ a b:List UInt8,zQ (a++b)=zQ a+zQ b*256^a.length
 | [],b=>by simp [zQ]
 | x::a,b=>by
  rw [List.cons_append,yD,gW a b,yD,List.length_cons,Nat.pow_succ,Nat.mul_add,Nat.add_assoc]
  congr 2
  rw [Nat.mul_comm 256 (zQ b*256^a.length),Nat.mul_assoc]
theorem jHi (i:Nat):∀ l:List UInt8,zQ (l.drop i)=zQ l / 256^i:=by
 induction i with
 | zero=>intro l; simp
 | succ i ih=>
  intro l;cases l with
  | nil=>simp [zQ]
  | cons b r=>
   rw [List.drop_succ_cons,ih,yD,Nat.pow_succ,Nat.mul_comm (256^i) 256,←Nat.div_div_eq_div_mul]
   congr 1
   have:=b.toNat_lt;omega
theorem jXw (n:Nat):∀ l:List UInt8,zQ (l.take n)=zQ l % 256^n:=by
 induction n with
 | zero=>intro l; simp [zQ,Nat.mod_one]
 | succ n ih=>
  intro l;cases l with
  | nil=>simp [zQ]
  | cons b r=>
   rw [List.take_succ_cons,yD,ih,yD,Nat.pow_succ,Nat.mul_comm (256^n) 256,Nat.mod_mul];have:=b.toNat_lt;have e1:(b.toNat+256*zQ r) % 256=b.toNat:=by omega
   have e2:(b.toNat+256*zQ r) / 256=zQ r:=by omega
   rw [e1,e2]
theorem jNa {l:List UInt8} {i:Nat} {b:UInt8} (h:l[i]?=some b):zQ l / 256^i % 256=b.toNat:=by
 rw [←jHi];have:l.drop i=b::l.drop (i+1):=by
  have hi:=(List.getElem?_eq_some_iff.1 h).1;rw [List.drop_eq_getElem_cons hi,(List.getElem?_eq_some_iff.1 h).2]
 rw [this,yD];have:=b.toNat_lt;omega
theorem aZ:∀ {a b:List UInt8},a.length=b.length→zQ a=zQ b→a=b
 | [],[],_,_=>rfl
 | [],_::_,h,_=>by simp at h
 | _::_,[],h,_=>by simp at h
 | x::a,y::b,h,e=>by
  rw [yD,yD] at e;have h1:=x.toNat_lt;have h2:=y.toNat_lt;have e1:x.toNat=y.toNat:=by omega
  have e2:zQ a=zQ b:=by omega
  rw [UInt8.toNat_inj.1 e1,aZ (by simpa using h) e2]
theorem jCt:∀ l:List UInt8,qBd l.length (zQ l)=l.map UInt8.toNat
 | []=>rfl
 | b::r=>by
  have h1:=b.toNat_lt;show Nat.mod (zQ (b::r)) 256::qBd r.length (Nat.div (zQ (b::r)) 256)=_;have e1:Nat.mod (zQ (b::r)) 256=b.toNat:=by rw [yD]; show (b.toNat+256*zQ r) % 256=_; omega
  have e2:Nat.div (zQ (b::r)) 256=zQ r:=by rw [yD]; show (b.toNat+256*zQ r) / 256=_; omega
  rw [e1,e2,jCt r]; rfl
theorem nY (n v:Nat):jOd n v=some (.s n v):=by simp only [jOd,qI]
structure G where
 c:Nat
 tot:Nat
abbrev J:=Nat→Option G
structure Mu where
 val:Nat→Value
 held:Nat→Obj→Prop
def jQp (μ:Mu) (w:World):Prop:=∀ g o,μ.held g o→w.heap[g]?=some o
section
variable (μ:Mu) (j:J)
mutual
def RV:AV→Value→Prop
 | .b x,v=>v = .bool x
 | .i k n,v=>v = .int k n
 | .s n u,v=>∃ s:ByteArray,v = .string s∧s.size=n∧zQ s.data.toList=u
 | .p0,v=>v = .pointer none
 | .p b o,v=>∃ g,j b=some g∧v = .pointer (some ⟨g.c,o,none⟩)
 | .sl0,v=>v = .slice none 0 0
 | .sl b o n z,v=>(b=0∧n=0∧∃ a c,v = .slice (some a) 0 c∧c≤maxLen)∨∃ g cap,j b=some g∧v = .slice (some ⟨g.c,o,none⟩) n cap∧n≤cap∧cap≤maxLen∧o+cap*z=g.tot
 | .f0,v=>v = .nilFunc
 | .ni,v=>v = .nilIface
 | .f fn a c,v=>∃ va vc,v = .func (.func fn) va vc∧RL a va.toList∧RL c vc.toList
 | .fi l,v=>∃ (a:Option Addr) (c:Nat),v = .slice a l.length c∧(l≠[]→∃ (bk of:Nat) (cs:Array Value) (e:TypeId) (fz:Nat×Nat),a=some ⟨bk,of,none⟩∧μ.held bk (.cells cs e fz)∧∀ (i:Nat) (z:Int),l[i]?=some z→cs[of+i]?=some (.int .i64 z))
 | .fq z,v=>∃ (bk of:Nat) (cs:Array Value) (e:TypeId) (fz:Nat×Nat),v = .pointer (some ⟨bk,of,none⟩)∧μ.held bk (.cells cs e fz)∧cs[of]?=some (.int .i64 z)
 | .agg l,v=>∃ a,v = .agg a∧RL l a.toList
 | .tup l,v=>∃ a,v = .tuple a∧RL l a.toList
def RL:List AV→List Value→Prop
 | [],l=>l=[]
 | x::r,l=>∃ v t,l=v::t∧RV x v∧RL r t
end
end
def J.le (j j':J):Prop:=∀ b g,j b=some g→j' b=some g
theorem J.le.refl (j:J):j.le j:=fun _ _ h=>h
theorem J.le.trans {a b c:J} (h:a.le b) (k:b.le c):a.le c:=fun x g e=>k x g (h x g e)
section
variable {μ:Mu} {j j':J}
mutual
theorem RV.mono (hj:j.le j'):∀ (x:AV) (v:Value),RV μ j x v→RV μ j' x v
 | .b _,_,h=>h
 | .i _ _,_,h=>h
 | .s _ _,_,h=>h
 | .p0,_,h=>h
 | .p b o,v,h=>by
  obtain ⟨g,e,r⟩:=h;exact ⟨g,hj _ _ e,r⟩
 | .sl0,_,h=>h
 | .sl b o n z,v,h=>by
  rcases h with h | ⟨g,cap,e,r⟩
  ·exact .inl h
  ·exact .inr ⟨g,cap,hj _ _ e,r⟩
 | .f0,_,h=>h
 | .ni,_,h=>h
 | .f fn a c,v,h=>by
  obtain ⟨va,vc,e,h1,h2⟩:=h;exact ⟨va,vc,e,RL.mono hj a _ h1,RL.mono hj c _ h2⟩
 | .fi _,_,h=>h
 | .fq _,_,h=>h
 | .agg l,v,h=>by
  obtain ⟨a,e,h1⟩:=h;exact ⟨a,e,RL.mono hj l _ h1⟩
 | .tup l,v,h=>by
  obtain ⟨a,e,h1⟩:=h;exact ⟨a,e,RL.mono hj l _ h1⟩
theorem RL.mono (hj:j.le j'):∀ (x:List AV) (v:List Value),RL μ j x v→RL μ j' x v
 | [],_,h=>h
 | x::r,v,h=>by
  obtain ⟨u,t,e,h1,h2⟩:=h;exact ⟨u,t,e,RV.mono hj x u h1,RL.mono hj r t h2⟩
end
theorem RL.len:∀ (x:List AV) (v:List Value),RL μ j x v→v.length=x.length
 | [],_,h=>by cases h; rfl
 | x::r,v,h=>by
  obtain ⟨u,t,rfl,_,h2⟩:=h;simp [RL.len r t h2]
theorem RL.nth:∀ (x:List AV) (v:List Value),RL μ j x v→∀ (i:Nat) (a:AV),x[i]?=some a→∃ u,v[i]?=some u∧RV μ j a u
 | [],_,_,i,a,h=>by simp at h
 | x::r,v,h,i,a,ha=>by
  obtain ⟨u,t,rfl,h1,h2⟩:=h;cases i with
  | zero=>simp at ha; subst ha; exact ⟨u,by simp,h1⟩
  | succ i=>simpa using RL.nth r t h2 i a (by simpa using ha)
theorem RL.of_nth:∀ (x:List AV) (v:List Value),v.length=x.length→(∀ (i:Nat) (a:AV),x[i]?=some a→∃ u,v[i]?=some u∧RV μ j a u)→RL μ j x v
 | [],v,hl,_=>List.eq_nil_of_length_eq_zero (by simpa using hl)
 | x::r,[],hl,_=>by simp at hl
 | x::r,u::t,hl,h=>by
  obtain ⟨u',e,h1⟩:=h 0 x (by simp)
  simp at e;subst e;exact ⟨u,t,rfl,h1,RL.of_nth r t (by simpa using hl) fun i a ha=>by simpa using h (i+1) a (by simpa using ha)⟩
theorem RL.append {x y:List AV} {v u:List Value} (h:RL μ j x v) (k:RL μ j y u):RL μ j (x++y) (v++u):=by
 induction x generalizing v with
 | nil=>cases h; simpa using k
 | cons a r ih=>
  obtain ⟨w,t,rfl,h1,h2⟩:=h;exact ⟨w,t++u,rfl,h1,ih h2⟩
def uQ (μ:Mu):Prop:=∀ k,(μ.val k).oneCell'=true
theorem jXq {v:Value} (h:v.oneCell'=true):v.cells = #[v]:=by cases v<;>first | rfl | simp [Value.oneCell'] at h
theorem RV.one (hμ:uQ μ) {x:AV} {v:Value} (hx:x.one=true) (h:RV μ j x v):v.oneCell'=true:=by
 cases x
 case agg l=>simp [AV.one] at hx
 case tup l=>simp [AV.one] at hx
 case b=>cases h; rfl
 case i=>cases h; rfl
 case s=>obtain ⟨s,rfl,_⟩:=h; rfl
 case p0=>cases h; rfl
 case p=>obtain ⟨g,_,rfl⟩:=h; rfl
 case sl0=>cases h; rfl
 case sl=>
  rcases h with ⟨_,_,a,c,rfl,_⟩ | ⟨g,cap,_,rfl,_⟩<;>rfl
 case f0=>cases h; rfl
 case ni=>cases h; rfl
 case f=>obtain ⟨va,vc,rfl,_⟩:=h; rfl
 case fi=>obtain ⟨a,c,rfl,_⟩:=h; rfl
 case fq=>obtain ⟨bk,of,cs,e,fz,rfl,_⟩:=h; rfl
theorem RV.cells (hμ:uQ μ) {x:AV} {v:Value} (h:RV μ j x v):RL μ j x.cells v.cells.toList:=by
 cases x
 case agg l=>obtain ⟨a,rfl,h1⟩:=h; exact h1
 case tup l=>
  obtain ⟨a,rfl,h1⟩:=h;exact ⟨_,[],rfl,⟨a,rfl,h1⟩,rfl⟩
 all_goals
  have h1:=RV.one hμ rfl h;rw [jXq h1];exact ⟨v,[],rfl,h,rfl⟩
theorem RL.ones (hμ:uQ μ):∀ {x:List AV} {v:List Value},jS x=true→RL μ j x v→∀ u∈v,u.oneCell'=true
 | [],v,_,h,u,hu=>by cases h; simp at hu
 | x::r,v,ha,h,u,hu=>by
  simp [jS] at ha;obtain ⟨w,t,rfl,h1,h2⟩:=h;rcases List.mem_cons.1 hu with rfl | hu
  ·exact RV.one hμ ha.1 h1
  ·exact RL.ones hμ ha.2 h2 u hu
end
def jJi (n:Nat) (fz:Nat×Nat):Prop:=∀ o,o<n→¬ (fz.1≤o∧o<fz.2)
def jBz (o:Obj):Prop:=∀ cs e fz,o ≠ .cells cs e fz
def ItR (μ:Mu) (j:J):It→Obj→Prop
 | .it n v p,o=>∃ s:ByteArray,o = .stringIter s p∧s.size=n∧zQ s.data.toList=v
theorem ItR.mono {μ:Mu} {j j':J} (hj:j.le j') {i:It} {o:Obj} (h:ItR μ j i o):ItR μ j' i o:=by
 cases i with
 | it n v p=>exact h
theorem ItR.notCells {μ:Mu} {j:J} {i:It} {o:Obj} (h:ItR μ j i o):jBz o:=by
 intro cs e fz ho;cases i with
 | it n v p=>obtain ⟨s,h1,_⟩:=h; rw [h1] at ho; cases ho
structure bP (B:Nat→Prop) (w w':World):Prop where
 os:w'.os=w.os
 tape:w'.tape=w.tape
 output:w'.output=w.output
 size:w.heap.size≤w'.heap.size
 block:∀ k,B k→w'.heap[k]?=w.heap[k]?
theorem bP.refl (B:Nat→Prop) (w:World):bP B w w:=⟨rfl,rfl,rfl,Nat.le_refl _,fun _ _=>rfl⟩
theorem bP.trans {B:Nat→Prop} {a b c:World} (h:bP B a b) (k:bP B b c):bP B a c:=
 ⟨k.os.trans h.os,k.tape.trans h.tape,k.output.trans h.output,Nat.le_trans h.size k.size,fun i hi=>(k.block i hi).trans (h.block i hi)⟩
theorem bP.mono {B B':Nat→Prop} {w w':World} (h:bP B w w') (hB:∀ k,B' k→B k):bP B' w w':=⟨h.os,h.tape,h.output,h.size,fun k hk=>h.block k (hB k hk)⟩
theorem bP.of_below {n:Nat} {w w':World} (h:Below n w w'):bP (· < n) w w':=⟨h.os,h.tape,h.output,h.size,h.block⟩
theorem bP.to_below {n:Nat} {w w':World} (h:bP (· < n) w w'):Below n w w':=⟨h.os,h.tape,h.output,h.size,h.block⟩
theorem bP.drew {B:Nat→Prop} {w w':World} (h:bP B w w'):bP B w w'.drew:=by
 have:=(Below.refl 0 w').drew;exact ⟨this.os.trans h.os,this.tape.trans h.tape,this.output.trans h.output,Nat.le_trans h.size this.size,h.block⟩
structure Rel (μ:Mu) (B:Nat→Prop) (w0:World) (j:J) (σ:Mem) (w:World):Prop where
 below:bP B w0 w
 base:∀ k,B k→k<w.heap.size
 pos:0<σ.nx
 lid:0≤σ.nx
 get:∀ (b:Nat) (blk:xY),σ.t.get b=some blk→∃ (g:G) (cs:Array Value) (fz:Nat×Nat),j b=some g∧¬ B g.c∧w.heap[g.c]?=some (.cells cs blk.elem fz)∧cs.size=g.tot∧(blk.plain=true→fz=(0,0))∧jJi cs.size fz ∧
  blk.cells.length≤cs.size∧jS blk.cells=true∧∀ (i:Nat) (x:AV),blk.cells[i]?=some x→∃ v:Value,cs[i]?=some v∧RV μ j x v
 inj:∀ b b' blk blk' g g',σ.t.get b=some blk→σ.t.get b'=some blk'→j b=some g→j b'=some g'→g.c=g'.c→b=b'
 dom:∀ b g,j b=some g→0<b∧b<σ.nx∧g.c<w.heap.size
 iter:∀ (b:Nat) (i:It),σ.it.get b=some i→∃ (g:G) (o:Obj),j b=some g∧¬ B g.c∧w.heap[g.c]?=some o∧ItR μ j i o
 itin:∀ b b' i i' g g',σ.it.get b=some i→σ.it.get b'=some i'→j b=some g→j b'=some g'→g.c=g'.c→b=b'
 held:∀ g o,μ.held g o→B g∧w0.heap[g]?=some o
section
variable {μ:Mu} {B:Nat→Prop} {w0 w:World} {j:J} {σ σ':Mem}
theorem Rel.heldW (h:Rel μ B w0 j σ w):jQp μ w:=fun g o hg=>by rw [h.below.block g (h.held g o hg).1]; exact (h.held g o hg).2
theorem Rel.fresh (h:Rel μ B w0 j σ w):¬ B w.heap.size:=fun hb=>Nat.lt_irrefl _ (h.base _ hb)
theorem Rel.drew (h:Rel μ B w0 j σ w):Rel μ B w0 j σ w.drew:=⟨h.below.drew,h.base,h.pos,h.lid,h.get,h.inj,h.dom,h.iter,h.itin,h.held⟩
theorem Rel.iters (h:Rel μ B w0 j σ w) {j':J} (hj:j.le j') {w':World} (hk:∀ (k:Nat) (o:Obj),w.heap[k]?=some o→jBz o→w'.heap[k]?=some o) :
  ∀ (b:Nat) (i:It),σ.it.get b=some i→∃ (g:G) (o:Obj),j' b=some g∧¬ B g.c∧w'.heap[g.c]?=some o∧ItR μ j' i o:=by
 intro b i hb;obtain ⟨g,o,h1,h2,h3,h4⟩:=h.iter b i hb;exact ⟨g,o,hj _ _ h1,h2,hk _ _ h3 h4.notCells,h4.mono hj⟩
theorem Rel.itins (h:Rel μ B w0 j σ w) {j':J} (hj:j.le j'):∀ b b' i i' g g',σ.it.get b=some i→σ.it.get b'=some i'→j' b=some g→j' b'=some g'→g.c=g'.c→b=b':=by
 intro b b' i i' g g' h1 h2 h3 h4 h5;obtain ⟨g1,_,k1,_⟩:=h.iter b i h1;obtain ⟨g2,_,k2,_⟩:=h.iter b' i' h2;have e1:=hj _ _ k1;have e2:=hj _ _ k2;rw [h3] at e1;rw [h4] at e2;cases e1;cases e2;exact h.itin b b' i i' _ _ h1 h2 k1 k2 h5
theorem Rel.lt (h:Rel μ B w0 j σ w) {b:Nat} {blk:xY} (hb:σ.t.get b=some blk):0<b∧b<σ.nx:=by
 obtain ⟨g,_,_,hj,_⟩:=h.get b blk hb;exact ⟨(h.dom b g hj).1,(h.dom b g hj).2.1⟩
theorem mA (c o i:Nat):(⟨c,o,none⟩:Addr).add i=⟨c,o+i,none⟩:=by unfold Addr.add; split<;>simp_all
theorem Rel.load (h:Rel μ B w0 j σ w) {b o n:Nat} {l:List AV} (hl:σ.load b o n=some l) {g:G} (hj:j b=some g) :
  ∃ vs:List Value,vs.length=n∧RL μ j l vs∧l.length=n∧jS l=true∧∀ (i:Nat) (v:Value),vs[i]?=some v→w.cell? ((⟨g.c,o,none⟩:Addr).add i)=some v:=by
 unfold Mem.load at hl;split at hl
 ·rename_i blk hb;obtain ⟨g',cs,fz,hj',_,hh,_,_,_,hlen,h1,hc⟩:=h.get b blk hb;rw [hj] at hj';cases hj';rw [xA] at hl;obtain ⟨e,hle⟩:=yY _ _ _ hl;simp only [List.length_drop] at hle;have hll:l.length=n:=by rw [e]; simp; omega
  refine ⟨(cs.toList.drop o).take n,by simp; omega,?_,hll,?_,?_⟩
  ·refine RL.of_nth _ _ (by rw [hll]; simp; omega) fun i a ha=>?_
   rw [e,List.getElem?_take] at ha;split at ha
   ·rw [List.getElem?_drop] at ha;obtain ⟨v,hv,hr⟩:=hc _ _ ha;exact ⟨v,by rw [List.getElem?_take,if_pos (by assumption),List.getElem?_drop]; simpa using hv,hr⟩
   ·cases ha
  ·rw [e];have aux:∀ (m:List AV) (k:Nat),jS m=true→jS (m.take k)=true:=by
    intro m
    induction m with
    | nil=>intro k _; simp [jS]
    | cons a r ih=>
     intro k hm;cases k with
     | zero=>rfl
     | succ k=>
      simp only [jS,Bool.and_eq_true] at hm;simp only [List.take_succ_cons,jS,Bool.and_eq_true];exact ⟨hm.1,ih k hm.2⟩
   have aux2:∀ (m:List AV) (k:Nat),jS m=true→jS (m.drop k)=true:=by
    intro m
    induction m with
    | nil=>intro k _; simp [jS]
    | cons a r ih=>
     intro k hm;cases k with
     | zero=>simpa using hm
     | succ k=>
      simp only [jS,Bool.and_eq_true] at hm;simpa using ih k hm.2
   exact aux _ _ (aux2 _ _ h1)
  ·intro i v hv;rw [List.getElem?_take] at hv;split at hv
   ·rw [List.getElem?_drop] at hv;rw [mA,cell_of_row w g.c (o+i) cs blk.elem fz hh];simpa using hv
   ·cases hv
 ·cases hl
def J.upd (j:J) (b:Nat) (g:G):J:=fun x=>if x=b then some g else j x
theorem Rel.le_upd (h:Rel μ B w0 j σ w) (g:G):j.le (j.upd σ.nx g):=by
 intro x g' e;unfold J.upd;rw [if_neg]
 ·exact e
 ·rintro rfl;have:=(h.dom _ _ e).2.1;omega
theorem Rel.new (h:Rel μ B w0 j σ w) {blk:xY} {b:Nat} (hn:σ.new blk=some (b,σ')) (cs:Array Value) (fz:Nat×Nat) (w':World)
  (hw:w'.heap=w.heap.push (.cells cs blk.elem fz)) (ho:w'.os=w.os) (ht:w'.tape=w.tape) (hu:w'.output=w.output)
  (hf:blk.plain=true→fz=(0,0)) (hth:jJi cs.size fz) (hlen:blk.cells.length≤cs.size) (h1:jS blk.cells=true)
  (hc:∀ (i:Nat) (x:AV),blk.cells[i]?=some x→∃ v:Value,cs[i]?=some v∧RV μ j x v) :
  b=σ.nx∧j.le (j.upd b ⟨w.heap.size,cs.size⟩)∧Rel μ B w0 (j.upd b ⟨w.heap.size,cs.size⟩) σ' w':=by
 unfold Mem.new at hn;split at hn
 ·rename_i hlt;have hlt':0≤σ.nx:=Nat.zero_le _;simp only [Option.some.injEq,Prod.mk.injEq] at hn;obtain ⟨rfl,rfl⟩:=hn;have hle:=h.le_upd ⟨w.heap.size,cs.size⟩;have hsz:w'.heap.size=w.heap.size+1:=by rw [hw]; simp
  have hold:∀ k,k<w.heap.size→w'.heap[k]?=w.heap[k]?:=by
   intro k hk;rw [hw,Array.getElem?_push,if_neg (by omega)]
  refine ⟨rfl,hle,?_,?_,?_,?_,?_,?_,?_,h.iters hle fun k o hk _=>(by rw [hold k (Array.getElem?_eq_some_iff.1 hk).1]; exact hk),h.itins hle,h.held⟩
  ·refine h.below.trans ⟨ho,ht,hu,by omega,fun k hk=>hold k (by have:=h.base k hk; omega)⟩
  ·intro k hk; have:=h.base k hk; omega
  ·show 0<σ.nx+1; omega
  ·exact Nat.zero_le _
  ·intro x bx hx;rw [Tr.get_set30 _ _ _ _ (by omega)] at hx
   by_cases e:x=σ.nx
   ·subst e;rw [if_pos rfl] at hx;cases hx;refine ⟨⟨w.heap.size,cs.size⟩,cs,fz,by simp [J.upd],h.fresh,?_,rfl,hf,hth,hlen,h1,?_⟩
    ·rw [hw]; simp
    ·intro i a ha;obtain ⟨v,hv,hr⟩:=hc i a ha;exact ⟨v,hv,hr.mono hle⟩
   ·rw [if_neg e] at hx;obtain ⟨g,cs',fz',hj,hB,hh,h2,h3,h4,h5,h6,h7⟩:=h.get x bx hx;refine ⟨g,cs',fz',hle _ _ hj,hB,?_,h2,h3,h4,h5,h6,fun i a ha=>?_⟩
    ·rw [hold _ (h.dom _ _ hj).2.2]; exact hh
    ·obtain ⟨v,hv,hr⟩:=h7 i a ha;exact ⟨v,hv,hr.mono hle⟩
  ·have hid:∀ y by_ gy,(Tr.put σ.t σ.nx (some blk)).get y=some by_→(j.upd σ.nx ⟨w.heap.size,cs.size⟩) y=some gy→(y=σ.nx∧gy.c=w.heap.size)∨(y≠σ.nx∧σ.t.get y=some by_∧j y=some gy∧gy.c<w.heap.size):=by
    intro y by_ gy hy hg;rw [Tr.get_set30 _ _ _ _ (by omega)] at hy
    unfold J.upd at hg;by_cases e:y=σ.nx
    ·rw [if_pos e] at hg;cases hg;exact .inl ⟨e,rfl⟩
    ·rw [if_neg e] at hy hg;exact .inr ⟨e,hy,hg,(h.dom _ _ hg).2.2⟩
   intro x x' bx bx' g g' hx hx' hg hg' hc';rcases hid x bx g hx hg with ⟨e,e2⟩ | ⟨e,e2,e3,e4⟩<;>rcases hid x' bx' g' hx' hg' with ⟨f,f2⟩ | ⟨f,f2,f3,f4⟩
   ·rw [e,f]
   ·omega
   ·omega
   ·exact h.inj _ _ _ _ _ _ e2 f2 e3 f3 hc'
  ·intro x g hg;show 0<x∧x<σ.nx+1∧_;unfold J.upd at hg;by_cases e:x=σ.nx
   ·rw [if_pos e] at hg;cases hg;have:=h.pos;refine ⟨by omega,by omega,?_⟩
    show w.heap.size<w'.heap.size; omega
   ·rw [if_neg e] at hg;have:=h.dom x g hg;exact ⟨this.1,by omega,by omega⟩
 ·cases hn
theorem Rel.kill (h:Rel μ B w0 j σ w) {b:Nat} (hb:0≤b):Rel μ B w0 j (σ.kill b) w:=by
 have sub:∀ x blk,(σ.kill b).t.get x=some blk→σ.t.get x=some blk∧x≠b:=by
  intro x blk hx;unfold Mem.kill at hx;rw [Tr.get_set30 _ _ _ _ hb] at hx;by_cases e:x=b
  ·rw [if_pos e] at hx; cases hx
  ·rw [if_neg e] at hx; exact ⟨hx,e⟩
 exact ⟨h.below,h.base,h.pos,h.lid,fun x blk hx=>h.get x blk (sub x blk hx).1,fun x y bx by_ g g' hx hy=>h.inj x y bx by_ g g' (sub _ _ hx).1 (sub _ _ hy).1,h.dom,h.iter,h.itin,h.held⟩
end
end
end Go.Proofs.YtdlhiljbhepliaaGreatDoor.Ev
