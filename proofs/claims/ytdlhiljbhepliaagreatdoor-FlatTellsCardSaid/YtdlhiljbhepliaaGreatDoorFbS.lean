/-
How scalars are told, by the functions of texts; what is asked of it.
-/
import Derived.Test.YtdlhiljbhepliaaGreatDoorGbF
import Derived.Test.YtdlhiljbhepliaaGreatDoorFtD
import Derived.Test.YtdlhiljbhepliaaGreatDoorFtE
namespace Go.Proofs.YtdlhiljbhepliaaGreatDoor.Ev.Fb
noncomputable section
set_option linter.all false
open Go Ev
def txL:Nat→Nat→List UInt8
 | 0,_=>[]
 | n+1,v=>UInt8.ofNat (v % 256)::txL n (v / 256)
theorem jLk:∀ n v:Nat,(txL n v).length=n
 | 0,v=>rfl
 | n+1,v=>by simp [txL,jLk n (v / 256)]
theorem jLj:∀ n v:Nat,v<256^n→zQ (txL n v)=v
 | 0,v,h=>by simp at h; subst h; rfl
 | n+1,v,h=>by
  rw [Nat.pow_succ] at h;show zQ (UInt8.ofNat (v % 256)::txL n (v / 256))=v;rw [yD,jLj n (v / 256) (by omega)]
  have:(UInt8.ofNat (v % 256)).toNat=v % 256:=by simp
  omega
def txB (x:Tx):ByteArray:=⟨(txL x.1 x.2).toArray⟩
def bTx (s:ByteArray):Tx:=(s.size,zQ s.data.toList)
theorem jFv (x:Tx):(txB x).size=x.1:=by
 show (txL x.1 x.2).toArray.size=x.1;rw [List.size_toArray,jLk]
theorem qGn {x:Tx} (h:x.2<256^x.1):bTx (txB x)=x:=by
 refine Prod.ext (jFv x) ?_;show zQ (txL x.1 x.2).toArray.toList=x.2;rw [List.toList_toArray];exact jLj _ _ h
theorem qJo (s:ByteArray):txB (bTx s)=s:=by
 have h:txL s.size (zQ s.data.toList)=s.data.toList:=by
  refine aZ (by rw [jLk]; simp) ?_
  refine jLj _ _ ?_;have:=jBh s.data.toList;simpa using this
 show (⟨(txL s.size (zQ s.data.toList)).toArray⟩:ByteArray)=s;rw [h]
theorem jBd (s:ByteArray):(bTx s).2<256^(bTx s).1:=by
 have:=jBh s.data.toList;show zQ s.data.toList<256^s.size;simpa using this
theorem jRu {s:ByteArray} (h:nl s.data.toList):nlP (bTx s).1 (bTx s).2:=by
 intro k hk;have hk':k<s.data.toList.length:=by
  change k<s.size at hk;simpa using hk
 have e:=jNa (l:=s.data.toList) (i:=k) (List.getElem?_eq_getElem hk');show zQ s.data.toList / 256^k % 256≠10;rw [e];intro q;exact h _ (List.getElem_mem hk') (by
  have:=congrArg UInt8.ofNat q;simpa using this)
noncomputable def scS:Sc:=⟨fun x b=>bTx (xQ (txB x) b),fun x fl=>vA (txB x) fl,fun x=>qN (txB x),fun x=>bTx (yX (txB x)),fun x=>bTx (yC++txB x)⟩
theorem qMj:tK scS where
 ql:=fun x b _=>by
  have h:=jZg (txB x) b;rw [jFv] at h;show (xQ (txB x) b).size≤_;simpa using h
 qf:=fun x b _=>⟨jRu (qDq _ _),jBd _⟩
 qs:=fun x b=>by
  show bTx (xQ (txB x) b)=bTx (xQ (txB x) (b&&qN (txB x)));unfold xQ;cases b<;>cases qN (txB x)<;>simp
 pf:=fun x fl ho h=>by
  have:=jRu (qDm h);rw [qGn ho.2] at this;exact this
 ll:=by
  show (yC++txB _).size≤30;rw [ByteArray.size_append,jFv]
  decide
 lf:=⟨jRu (by
  rw [vQ];exact fH (kQ (by decide)) (kQ (by decide))),jBd _⟩
 tc:=fun x _=>jBd _
 lc:=fun x _=>jBd _
end
noncomputable section
set_option linter.all false
open Go Ev Go.RowKit
theorem bN {s:ByteArray} {n v:Nat} (h1:s.size=n) (h2:zQ s.data.toList=v):txB (n,v)=s:=by
 subst h1; subst h2;exact qJo s
theorem oU {μ:Mu} {j:J} (s:ByteArray):RV μ j (.s (bTx s).1 (bTx s).2) (.string s):=⟨s,rfl,rfl,rfl⟩
section
variable {μ:Mu}
def KnM (μ:Mu):Prop:=∀ w,jQp μ w→Kn w
theorem qPy (hk:KnM μ) (args:List AV) (σ:Mem) (x:AV) (h:xB scS 59 args σ=some x) (B:Nat→Prop) (w0:World) (j:J) (w:World) (vs:List Value) (hr:Rel μ B w0 j σ w) (hl:RL μ j args vs) :
  Calls Tryz.prog 59 vs.toArray w fun e w'=>∃ v,e = .returned v∧RV μ j x v∧Below w.heap.size w w':=by
 simp only [xB] at h;split at h
 ·rename_i n v b;split at h
  ·rename_i ho;cases h;obtain ⟨_,_,rfl,⟨s,rfl,h1,h2⟩,_,_,rfl,rfl,rfl⟩:=hl;have e:=bN h1 h2;have hs:s.size≤4200000000:=by
    have:=ho.1;have e2:TB=4000000000:=rfl;have e3:((n,v):Tx).1=n:=rfl;omega
   refine (jZf s b w hs (hk w hr.heldW)).mono ?_;rintro e' w' ⟨rfl,hb⟩;refine ⟨_,rfl,?_,hb⟩;have:=oU (μ:=μ) (j:=j) (xQ s b);rw [←e] at this ⊢;exact this
  ·cases h
 ·cases h
theorem qPx (hk:KnM μ) (args:List AV) (σ:Mem) (x:AV) (h:xB scS 49 args σ=some x) (B:Nat→Prop) (w0:World) (j:J) (w:World) (vs:List Value) (hr:Rel μ B w0 j σ w) (hl:RL μ j args vs) :
  Calls Tryz.prog 49 vs.toArray w fun e w'=>∃ v,e = .returned v∧RV μ j x v∧Below w.heap.size w w':=by
 simp only [xB] at h;split at h
 ·rename_i n v b;split at h
  ·rename_i ho;cases h;obtain ⟨_,_,rfl,⟨s,rfl,h1,h2⟩,_,_,rfl,rfl,rfl⟩:=hl;have e:=bN h1 h2;have hs:s.size≤4200000000:=by
    have:=ho.1;have e2:TB=4000000000:=rfl;have e3:((n,v):Tx).1=n:=rfl;omega
   refine (jKw s b w hs).mono ?_;rintro e' w' ⟨rfl,hb⟩;refine ⟨_,rfl,?_,hb⟩;have:=oU (μ:=μ) (j:=j) (xQ s b);rw [←e] at this ⊢;exact this
  ·cases h
 ·cases h
theorem qKj (hk:KnM μ) (args:List AV) (σ:Mem) (x:AV) (h:xB scS 83 args σ=some x) (B:Nat→Prop) (w0:World) (j:J) (w:World) (vs:List Value) (hr:Rel μ B w0 j σ w) (hl:RL μ j args vs) :
  Calls Tryz.prog 83 vs.toArray w fun e w'=>∃ v,e = .returned v∧RV μ j x v∧Below w.heap.size w w':=by
 simp only [xB] at h;split at h
 ·rename_i n v b;split at h
  ·rename_i ho;cases h;obtain ⟨_,_,rfl,⟨s,rfl,h1,h2⟩,_,_,rfl,rfl,rfl⟩:=hl;have e:=bN h1 h2;have hs:s.size≤4200000000:=by
    have:=ho.1;have e2:TB=4000000000:=rfl;have e3:((n,v):Tx).1=n:=rfl;omega
   refine (jYz s b w (by omega) (hk w hr.heldW).tab).mono ?_
   rintro e' w' ⟨rfl,hb⟩;refine ⟨_,rfl,?_,hb⟩;show Value.bool _=Value.bool _;rw [←e]; rfl
  ·cases h
 ·cases h
theorem qLv (hk:KnM μ) (args:List AV) (σ:Mem) (x:AV) (h:xB scS 104 args σ=some x) (B:Nat→Prop) (w0:World) (j:J) (w:World) (vs:List Value) (hr:Rel μ B w0 j σ w) (hl:RL μ j args vs) :
  Calls Tryz.prog 104 vs.toArray w fun e w'=>∃ v,e = .returned v∧RV μ j x v∧Below w.heap.size w w':=by
 simp only [xB] at h;split at h
 ·rename_i n v b;split at h
  ·rename_i ho;cases h;obtain ⟨_,_,rfl,⟨s,rfl,h1,h2⟩,_,_,rfl,rfl,rfl⟩:=hl;have e:=bN h1 h2;have hs:s.size≤4200000000:=by
    have:=ho.1;have e2:TB=4000000000:=rfl;have e3:((n,v):Tx).1=n:=rfl;omega
   refine (jKv s b w (by omega)).mono ?_
   rintro e' w' ⟨rfl,hb⟩;refine ⟨_,rfl,?_,hb⟩;show Value.bool _=Value.bool _;rw [←e]; rfl
  ·cases h
 ·cases h
theorem qQa (hk:KnM μ) (args:List AV) (σ:Mem) (x:AV) (h:xB scS 85 args σ=some x) (B:Nat→Prop) (w0:World) (j:J) (w:World) (vs:List Value) (hr:Rel μ B w0 j σ w) (hl:RL μ j args vs) :
  Calls Tryz.prog 85 vs.toArray w fun e w'=>∃ v,e = .returned v∧RV μ j x v∧Below w.heap.size w w':=by
 simp only [xB] at h;split at h
 ·rename_i n v;split at h
  ·rename_i ho;cases h;obtain ⟨_,_,rfl,⟨s,rfl,h1,h2⟩,rfl⟩:=hl;have e:=bN h1 h2;have hs:s.size≤4200000000:=by
    have:=ho.1;have e2:TB=4000000000:=rfl;have e3:((n,v):Tx).1=n:=rfl;omega
   refine (qJk s w hs).mono ?_;rintro e' w' ⟨rfl,hb⟩;refine ⟨_,rfl,?_,hb⟩;have:=oU (μ:=μ) (j:=j) (yX s);rw [←e] at this ⊢;exact this
  ·cases h
 ·cases h
theorem qLw (hk:KnM μ) (args:List AV) (σ:Mem) (x:AV) (h:xB scS 106 args σ=some x) (B:Nat→Prop) (w0:World) (j:J) (w:World) (vs:List Value) (hr:Rel μ B w0 j σ w) (hl:RL μ j args vs) :
  Calls Tryz.prog 106 vs.toArray w fun e w'=>∃ v,e = .returned v∧RV μ j x v∧Below w.heap.size w w':=by
 simp only [xB] at h;split at h
 ·rename_i n v;split at h
  ·rename_i ho;cases h;obtain ⟨_,_,rfl,⟨s,rfl,h1,h2⟩,rfl⟩:=hl;have e:=bN h1 h2;have hs:s.size≤4200000000:=by
    have:=ho.1;have e2:TB=4000000000:=rfl;have e3:((n,v):Tx).1=n:=rfl;omega
   refine (jOz s w hs).mono ?_;rintro e' w' ⟨rfl,hb⟩;subst hb;refine ⟨_,rfl,?_,Below.refl _ _⟩;have:=oU (μ:=μ) (j:=j) (yX s);rw [←e] at this ⊢;exact this
  ·cases h
 ·cases h
theorem qQb (hk:KnM μ) (args:List AV) (σ:Mem) (x:AV) (h:xB scS 86 args σ=some x) (B:Nat→Prop) (w0:World) (j:J) (w:World) (vs:List Value) (hr:Rel μ B w0 j σ w) (hl:RL μ j args vs) :
  Calls Tryz.prog 86 vs.toArray w fun e w'=>∃ v,e = .returned v∧RV μ j x v∧Below w.heap.size w w':=by
 simp only [xB] at h;split at h
 ·rename_i n v;split at h
  ·rename_i ho;cases h;obtain ⟨_,_,rfl,⟨s,rfl,h1,h2⟩,rfl⟩:=hl;have e:=bN h1 h2;have hs:s.size≤4200000000:=by
    have:=ho.1;have e2:TB=4000000000:=rfl;have e3:((n,v):Tx).1=n:=rfl;omega
   refine (gH s w (by omega)).mono ?_
   rintro e' w' ⟨rfl,hb⟩;subst hb;refine ⟨_,rfl,?_,Below.refl _ _⟩;have:=oU (μ:=μ) (j:=j) (yC++s);rw [←e] at this ⊢;exact this
  ·cases h
 ·cases h
theorem qPw (hk:KnM μ) (args:List AV) (σ:Mem) (x:AV) (h:xB scS 48 args σ=some x) (B:Nat→Prop) (w0:World) (j:J) (w:World) (vs:List Value) (hr:Rel μ B w0 j σ w) (hl:RL μ j args vs) :
  Calls Tryz.prog 48 vs.toArray w fun e w'=>∃ v,e = .returned v∧RV μ j x v∧Below w.heap.size w w':=by
 simp only [xB] at h;split at h
 ·rename_i n v;split at h
  ·rename_i ho;cases h;obtain ⟨_,_,rfl,⟨s,rfl,h1,h2⟩,rfl⟩:=hl;have e:=bN h1 h2;have hs:s.size≤4200000000:=by
    have:=ho.1;have e2:TB=4000000000:=rfl;have e3:((n,v):Tx).1=n:=rfl;omega
   refine (jW s w (by omega)).mono ?_
   rintro e' w' ⟨rfl,hb⟩;subst hb;refine ⟨_,rfl,?_,Below.refl _ _⟩;have:=oU (μ:=μ) (j:=j) (yC++s);rw [←e] at this ⊢;exact this
  ·cases h
 ·cases h
theorem qQc (hk:KnM μ) (args:List AV) (σ:Mem) (x:AV) (h:xB scS 87 args σ=some x) (B:Nat→Prop) (w0:World) (j:J) (w:World) (vs:List Value) (hr:Rel μ B w0 j σ w) (hl:RL μ j args vs) :
  Calls Tryz.prog 87 vs.toArray w fun e w'=>∃ v,e = .returned v∧RV μ j x v∧Below w.heap.size w w':=by
 simp only [xB] at h;split at h
 ·rename_i n v;split at h
  ·rename_i ho;cases h;obtain ⟨_,_,rfl,⟨s,rfl,h1,h2⟩,rfl⟩:=hl;have e:=bN h1 h2;have hs:s.size≤4200000000:=by
    have:=ho.1;have e2:TB=4000000000:=rfl;have e3:((n,v):Tx).1=n:=rfl;omega
   refine (aE s w (by omega) (hk w hr.heldW).tab).mono ?_
   rintro e' w' ⟨rfl,hb⟩;refine ⟨_,rfl,?_,hb⟩;show Value.bool _=Value.bool _;rw [←e]; rfl
  ·cases h
 ·cases h
theorem qPz (hk:KnM μ) (args:List AV) (σ:Mem) (x:AV) (h:xB scS 77 args σ=some x) (B:Nat→Prop) (w0:World) (j:J) (w:World) (vs:List Value) (hr:Rel μ B w0 j σ w) (hl:RL μ j args vs) :
  Calls Tryz.prog 77 vs.toArray w fun e w'=>∃ v,e = .returned v∧RV μ j x v∧Below w.heap.size w w':=by
 simp only [xB] at h;split at h
 ·rename_i n v;split at h
  ·rename_i ho;cases h;obtain ⟨_,_,rfl,⟨s,rfl,h1,h2⟩,rfl⟩:=hl;have e:=bN h1 h2;have hs:s.size≤4200000000:=by
    have:=ho.1;have e2:TB=4000000000:=rfl;have e3:((n,v):Tx).1=n:=rfl;omega
   refine (vV s w (by omega)).mono ?_
   rintro e' w' ⟨rfl,hb⟩;refine ⟨_,rfl,?_,hb⟩;show Value.bool _=Value.bool _;rw [←e]; rfl
  ·cases h
 ·cases h
theorem qCl (a b:List UInt8) (r:List (List UInt8)) (sep:List UInt8):Lib.join (a::b::r) sep=a++sep++Lib.join (b::r) sep:=by
 rw [Lib.join_cons,Lib.join_cons];simp [Lib.joinTail,List.append_assoc]
theorem qAf (s:ByteArray):bTx s=(s.data.toList.length,zQ s.data.toList):=by
 show (s.size,zQ s.data.toList)=_;rw [show s.data.toList.length=s.size by simp]
theorem jHw:∀ ss:List ByteArray,jM (ss.map bTx)=((Lib.join (ss.map (·.data.toList)) [44,32]).length,zQ (Lib.join (ss.map (·.data.toList)) [44,32]))
 | []=>rfl
 | [a]=>by
  show bTx a=_;rw [List.map_cons,List.map_nil,Lib.join_one,qAf]
 | a::b::r=>by
  have h:=jHw (b::r);simp only [List.map_cons] at h ⊢;rw [jM,h,qCl,qAf];have e1:zQ [44,32]=8236:=by decide
  refine Prod.ext ?_ ?_
  ·simp only [jX,List.length_append]; rfl
  ·simp only [jX];rw [gW,gW,e1,List.length_append];rfl
theorem jHf {j:J} {cs:Array Value} {o:Nat}:∀ {av:List AV} {l:List Tx},gC av=some l→(∀ (i:Nat) (x:AV),av[i]?=some x→∃ v:Value,cs[o+i]?=some v∧RV μ j x v)→∃ ss:List ByteArray,l=ss.map bTx∧∀ (i:Nat) (s:ByteArray),ss[i]?=some s→cs[o+i]?=some (.string s)
 | [],l,h,k=>by
  simp only [gC] at h; cases h;exact ⟨[],rfl,fun i s e=>by simp at e⟩
 | c::av,l,h,k=>by
  simp only [gC] at h;split at h
  ·rename_i x l' e1 e2;cases h;obtain ⟨v,hv,hr⟩:=k 0 c rfl;obtain ⟨ss,h1,h2⟩:=jHf (o:=o+1) (cs:=cs) (j:=j) e2 fun i x e=>by
    obtain ⟨v,hv,hr⟩:=k (i+1) x (by simpa using e)
    exact ⟨v,by rw [show o+1+i=o+(i+1) by omega]; exact hv,hr⟩
   cases c<;>simp only [qAp] at e1<;>cases e1;obtain ⟨s,rfl,h3,h4⟩:=hr;refine ⟨s::ss,by rw [List.map_cons,←h1]; congr 1; exact Prod.ext h3.symm h4.symm,fun i s' e=>?_⟩
   cases i with
   | zero=>simp at e; subst e; exact hv
   | succ i=>
    have:=h2 i s' (by simpa using e)
    rw [show o+1+i=o+(i+1) by omega] at this
    exact this
  ·cases h
theorem jCn:∀ {av:List AV} {l:List Tx},gC av=some l→l.length=av.length
 | [],l,h=>by simp only [gC] at h; cases h; rfl
 | c::av,l,h=>by
  simp only [gC] at h;split at h
  ·rename_i x l' e1 e2;cases h;simp [jCn e2]
  ·cases h
theorem qKi (args:List AV) (σ:Mem) (x:AV) (h:xB scS 61 args σ=some x) (B:Nat→Prop) (w0:World) (j:J) (w:World) (vs:List Value) (hr:Rel μ B w0 j σ w) (hl:RL μ j args vs) :
  Calls Tryz.prog 61 vs.toArray w fun e w'=>∃ v,e = .returned v∧RV μ j x v∧Below w.heap.size w w':=by
 simp only [xB] at h;split at h
 ·rename_i y;split at h
  ·rename_i l hl2;split at h
   ·rename_i hb;cases h;obtain ⟨v,_,rfl,hv,_,_,rfl,⟨sep,rfl,q1,q2⟩,rfl⟩:=hl;have hsep:sep.data.toList=[44,32]:=aZ (by rw [show sep.data.toList.length=sep.size by simp,q1]; rfl) (by rw [q2]; decide)
    have nn0:∀ (a:Option Addr) (c:Nat),l=[]→Calls Tryz.prog 61 #[.slice a 0 c,.string sep] w fun e w'=>∃ v,e = .returned v∧RV μ j (.s (jM l).1 (jM l).2) v∧Below w.heap.size w w':=fun a c e=>by
     refine (Any.strings_Join_none Tryz.q156 Tryz.qX a c sep w).mono ?_;rintro e' w' ⟨rfl,rfl⟩;refine ⟨_,rfl,?_,Below.refl _ _⟩;rw [e];exact ⟨_,rfl,rfl,rfl⟩
    unfold jOy at hl2;split at hl2
    ·cases hl2;cases hv;exact nn0 _ _ rfl
    ·rename_i b o n;split at hl2
     ·cases hl2;rcases hv with ⟨_,_,a,c,rfl,_⟩ | ⟨g,cap,_,rfl,_⟩
      ·exact nn0 _ _ rfl
      ·exact nn0 _ _ rfl
     ·rename_i n;split at hl2
      ·rename_i blk hg;split at hl2
       ·rename_i cs' htk;obtain ⟨rfl,hcl⟩:=yY _ _ _ htk;rcases hv with ⟨_,h0,_⟩ | ⟨g,cap,hj,rfl,hc,_,_⟩
        ·cases h0
        ·obtain ⟨g',cs,fz,hj',_,hh,hcs,_,_,hbl,_,hcell⟩:=hr.get b blk hg;rw [hj] at hj'; cases hj';obtain ⟨ss,e1,e2⟩:=jHf (μ:=μ) (j:=j) (cs:=cs) (o:=o) hl2 fun i x e=>by
          rw [List.getElem?_take] at e;split at e
          ·rw [List.getElem?_drop] at e;exact hcell _ x e
          ·cases e
         have hlen:ss.length=n+1:=by
          have h3:=jCn hl2;rw [e1,List.length_map,List.length_take] at h3;omega
         have hjl:=jHw ss;rw [←e1] at hjl;have hml:(jM l).1≤140737488355328:=Nat.le_trans (yL l) hb.1;rw [hjl] at hml;have hgc:g.c<w.heap.size:=(hr.dom b g hj).2.2;have:=Any.strings_Join Tryz.q156 Tryz.qX g.c o cap ss sep w (fun i s e=>by
          have h4:=e2 i s e;show w.cell? ⟨g.c,o+i,none⟩=_;simp [World.cell?,hh,h4]) hgc (by rw [hlen]; have:=hb.2; rw [e1,List.length_map,hlen] at this; have e9:NB=1000000:=rfl; omega) (by rw [hlen]; exact hc) (by rw [hsep]; exact hml)
         rw [hlen] at this;refine this.mono ?_;rintro e' w' ⟨rfl,hbw⟩;refine ⟨_,rfl,?_,hbw⟩;rw [hjl,hsep];exact ⟨_,rfl,by simp [ByteArray.size],rfl⟩
       ·cases hl2
      ·cases hl2
    ·cases hl2
   ·cases h
  ·cases h
 ·cases h
end
end
end Go.Proofs.YtdlhiljbhepliaaGreatDoor.Ev.Fb
