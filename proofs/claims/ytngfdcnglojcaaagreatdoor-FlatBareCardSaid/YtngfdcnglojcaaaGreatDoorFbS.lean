/-
How scalars are told, by the functions of texts; what is asked of it.
-/
import Derived.Test.YtngfdcnglojcaaaGreatDoorPsK
import Derived.Test.YtngfdcnglojcaaaGreatDoorFbC
import Derived.Test.YtngfdcnglojcaaaGreatDoorFbF
import Derived.Test.YtngfdcnglojcaaaGreatDoorPsA
section
set_option linter.all false
namespace Go.Proofs.YtngfdcnglojcaaaGreatDoor.Ev.Fb
noncomputable section
open Go Ev
def txL:Nat→Nat→List UInt8
 | 0,_=>[]
 | n+1,v=>UInt8.ofNat (v % 256)::txL n (v / 256)
theorem jIu:∀ n v:Nat,(txL n v).length=n
 | 0,v=>rfl
 | n+1,v=>by simp [txL,jIu n (v / 256)]
theorem jIt:∀ n v:Nat,v<256^n→qF (txL n v)=v
 | 0,v,h=>by simp at h; subst h; rfl
 | n+1,v,h=>by
  rw [Nat.pow_succ] at h
  show qF (UInt8.ofNat (v % 256)::txL n (v / 256))=v
  rw [zW,jIt n (v / 256) (by omega)]
  have:(UInt8.ofNat (v % 256)).toNat=v % 256:=by simp
  omega
def txB (x:Tx):ByteArray:=⟨(txL x.1 x.2).toArray⟩
def bTx (s:ByteArray):Tx:=(s.size,qF s.data.toList)
theorem jDj (x:Tx):(txB x).size=x.1:=by
 show (txL x.1 x.2).toArray.size=x.1
 rw [List.size_toArray,jIu]
theorem qDa {x:Tx} (h:x.2<256^x.1):bTx (txB x)=x:=by
 refine Prod.ext (jDj x) ?_
 show qF (txL x.1 x.2).toArray.toList=x.2
 rw [List.toList_toArray]
 exact jIt _ _ h
theorem qEz (s:ByteArray):txB (bTx s)=s:=by
 have h:txL s.size (qF s.data.toList)=s.data.toList:=by
  refine tG (by rw [jIu]; simp) ?_
  refine jIt _ _ ?_
  have:=oB s.data.toList
  simpa using this
 show (⟨(txL s.size (qF s.data.toList)).toArray⟩:ByteArray)=s
 rw [h]
theorem lY (s:ByteArray):(bTx s).2<256^(bTx s).1:=by
 have:=oB s.data.toList
 show qF s.data.toList<256^s.size
 simpa using this
theorem jOr {s:ByteArray} (h:nl s.data.toList):nlP (bTx s).1 (bTx s).2:=by
 intro k hk
 have hk':k<s.data.toList.length:=by
  change k<s.size at hk
  simpa using hk
 have e:=jAo (l:=s.data.toList) (i:=k) (List.getElem?_eq_getElem hk')
 show qF s.data.toList / 256^k % 256≠10
 rw [e]
 intro q
 exact h _ (List.getElem_mem hk') (by
  have:=congrArg UInt8.ofNat q
  simpa using this)
noncomputable def scS:Sc:=⟨fun x b=>bTx (vE (txB x) b),fun x fl=>vY (txB x) fl,fun x=>vK (txB x),fun x=>bTx (jIr (txB x)),fun x=>bTx (jKz++txB x)⟩
theorem qHz:sU scS where
 ql:=fun x b _=>by
  have h:=jWd (txB x) b
  rw [jDj] at h
  show (vE (txB x) b).size≤_
  simpa using h
 qf:=fun x b _=>⟨jOr (jZy _ _),lY _⟩
 pf:=fun x fl ho h=>by
  have:=jOr (jZt h)
  rw [qDa ho.2] at this
  exact this
 ll:=by
  show (jKz++txB _).size≤30
  rw [ByteArray.size_append,jDj]
  decide
 lf:=⟨jOr (by
  rw [uA]
  exact wZ (vX (by decide)) (vX (by decide))),lY _⟩
 tc:=fun x _=>lY _
 lc:=fun x _=>lY _
end
end Go.Proofs.YtngfdcnglojcaaaGreatDoor.Ev.Fb
end
section
set_option linter.all false
namespace Go.Proofs.YtngfdcnglojcaaaGreatDoor.Ev.Fb
noncomputable section
open Go Ev Go.RowKit
theorem jDi {s:ByteArray} {n v:Nat} (h1:s.size=n) (h2:qF s.data.toList=v):txB (n,v)=s:=by
 subst h1; subst h2
 exact qEz s
theorem jPh {μ:Mu} {j:J} (s:ByteArray):RV μ j (.s (bTx s).1 (bTx s).2) (.string s):=⟨s,rfl,rfl,rfl⟩
section
variable {μ:Mu}
def KnM (μ:Mu):Prop:=∀ w,jNp μ w→Kn w
theorem qLs (hk:KnM μ) (args:List AV) (σ:Mem) (x:AV) (h:yE scS 44 args σ=some x) (B:Nat→Prop) (w0:World) (j:J) (w:World) (vs:List Value) (hr:Rel μ B w0 j σ w) (hl:RL μ j args vs) :
  Calls Tryz.prog 44 vs.toArray w fun e w'=>∃ v,e = .returned v∧RV μ j x v∧Below w.heap.size w w':=by
 simp only [yE] at h
 split at h
 ·rename_i n v b
  split at h
  ·rename_i ho
   cases h
   obtain ⟨_,_,rfl,⟨s,rfl,h1,h2⟩,_,_,rfl,rfl,rfl⟩:=hl
   have e:=jDi h1 h2
   have hs:s.size≤4200000000:=by
    have:=ho.1
    have e2:TB=4000000000:=rfl
    have e3:((n,v):Tx).1=n:=rfl
    omega
   refine (jWc s b w hs (hk w hr.heldW)).mono ?_
   rintro e' w' ⟨rfl,hb⟩
   refine ⟨_,rfl,?_,hb⟩
   have:=jPh (μ:=μ) (j:=j) (vE s b)
   rw [←e] at this ⊢
   exact this
  ·cases h
 ·cases h
theorem qFw (hk:KnM μ) (args:List AV) (σ:Mem) (x:AV) (h:yE scS 68 args σ=some x) (B:Nat→Prop) (w0:World) (j:J) (w:World) (vs:List Value) (hr:Rel μ B w0 j σ w) (hl:RL μ j args vs) :
  Calls Tryz.prog 68 vs.toArray w fun e w'=>∃ v,e = .returned v∧RV μ j x v∧Below w.heap.size w w':=by
 simp only [yE] at h
 split at h
 ·rename_i n v b
  split at h
  ·rename_i ho
   cases h
   obtain ⟨_,_,rfl,⟨s,rfl,h1,h2⟩,_,_,rfl,rfl,rfl⟩:=hl
   have e:=jDi h1 h2
   have hs:s.size≤4200000000:=by
    have:=ho.1
    have e2:TB=4000000000:=rfl
    have e3:((n,v):Tx).1=n:=rfl
    omega
   refine (jVv s b w (by omega) (hk w hr.heldW).tab).mono ?_
   rintro e' w' ⟨rfl,hb⟩
   refine ⟨_,rfl,?_,hb⟩
   show Value.bool _=Value.bool _
   rw [←e]; rfl
  ·cases h
 ·cases h
theorem qLt (hk:KnM μ) (args:List AV) (σ:Mem) (x:AV) (h:yE scS 70 args σ=some x) (B:Nat→Prop) (w0:World) (j:J) (w:World) (vs:List Value) (hr:Rel μ B w0 j σ w) (hl:RL μ j args vs) :
  Calls Tryz.prog 70 vs.toArray w fun e w'=>∃ v,e = .returned v∧RV μ j x v∧Below w.heap.size w w':=by
 simp only [yE] at h
 split at h
 ·rename_i n v
  split at h
  ·rename_i ho
   cases h
   obtain ⟨_,_,rfl,⟨s,rfl,h1,h2⟩,rfl⟩:=hl
   have e:=jDi h1 h2
   have hs:s.size≤4200000000:=by
    have:=ho.1
    have e2:TB=4000000000:=rfl
    have e3:((n,v):Tx).1=n:=rfl
    omega
   refine (qEw s w hs).mono ?_
   rintro e' w' ⟨rfl,hb⟩
   refine ⟨_,rfl,?_,hb⟩
   have:=jPh (μ:=μ) (j:=j) (jIr s)
   rw [←e] at this ⊢
   exact this
  ·cases h
 ·cases h
theorem qLu (hk:KnM μ) (args:List AV) (σ:Mem) (x:AV) (h:yE scS 71 args σ=some x) (B:Nat→Prop) (w0:World) (j:J) (w:World) (vs:List Value) (hr:Rel μ B w0 j σ w) (hl:RL μ j args vs) :
  Calls Tryz.prog 71 vs.toArray w fun e w'=>∃ v,e = .returned v∧RV μ j x v∧Below w.heap.size w w':=by
 simp only [yE] at h
 split at h
 ·rename_i n v
  split at h
  ·rename_i ho
   cases h
   obtain ⟨_,_,rfl,⟨s,rfl,h1,h2⟩,rfl⟩:=hl
   have e:=jDi h1 h2
   have hs:s.size≤4200000000:=by
    have:=ho.1
    have e2:TB=4000000000:=rfl
    have e3:((n,v):Tx).1=n:=rfl
    omega
   refine (kV s w (by omega)).mono ?_
   rintro e' w' ⟨rfl,hb⟩
   subst hb
   refine ⟨_,rfl,?_,Below.refl _ _⟩
   have:=jPh (μ:=μ) (j:=j) (jKz++s)
   rw [←e] at this ⊢
   exact this
  ·cases h
 ·cases h
theorem qLv (hk:KnM μ) (args:List AV) (σ:Mem) (x:AV) (h:yE scS 72 args σ=some x) (B:Nat→Prop) (w0:World) (j:J) (w:World) (vs:List Value) (hr:Rel μ B w0 j σ w) (hl:RL μ j args vs) :
  Calls Tryz.prog 72 vs.toArray w fun e w'=>∃ v,e = .returned v∧RV μ j x v∧Below w.heap.size w w':=by
 simp only [yE] at h
 split at h
 ·rename_i n v
  split at h
  ·rename_i ho
   cases h
   obtain ⟨_,_,rfl,⟨s,rfl,h1,h2⟩,rfl⟩:=hl
   have e:=jDi h1 h2
   have hs:s.size≤4200000000:=by
    have:=ho.1
    have e2:TB=4000000000:=rfl
    have e3:((n,v):Tx).1=n:=rfl
    omega
   refine (sL s w (by omega) (hk w hr.heldW).tab).mono ?_
   rintro e' w' ⟨rfl,hb⟩
   refine ⟨_,rfl,?_,hb⟩
   show Value.bool _=Value.bool _
   rw [←e]; rfl
  ·cases h
 ·cases h
theorem jYw (a b:List UInt8) (r:List (List UInt8)) (sep:List UInt8):Lib.join (a::b::r) sep=a++sep++Lib.join (b::r) sep:=by
 rw [Lib.join_cons,Lib.join_cons]
 simp [Lib.joinTail,List.append_assoc]
theorem jWu (s:ByteArray):bTx s=(s.data.toList.length,qF s.data.toList):=by
 show (s.size,qF s.data.toList)=_
 rw [show s.data.toList.length=s.size by simp]
theorem jFh:∀ ss:List ByteArray,zS (ss.map bTx)=((Lib.join (ss.map (·.data.toList)) [44,32]).length,qF (Lib.join (ss.map (·.data.toList)) [44,32]))
 | []=>rfl
 | [a]=>by
  show bTx a=_
  rw [List.map_cons,List.map_nil,Lib.join_one,jWu]
 | a::b::r=>by
  have h:=jFh (b::r)
  simp only [List.map_cons] at h ⊢
  rw [zS,h,jYw,jWu]
  have e1:qF [44,32]=8236:=by decide
  refine Prod.ext ?_ ?_
  ·simp only [xL,List.length_append]; rfl
  ·simp only [xL]
   rw [fI,fI,e1,List.length_append]
   rfl
theorem jEn {j:J} {cs:Array Value} {o:Nat}:∀ {av:List AV} {l:List Tx},kQ av=some l→(∀ (i:Nat) (x:AV),av[i]?=some x→∃ v:Value,cs[o+i]?=some v∧RV μ j x v)→∃ ss:List ByteArray,l=ss.map bTx∧∀ (i:Nat) (s:ByteArray),ss[i]?=some s→cs[o+i]?=some (.string s)
 | [],l,h,k=>by
  simp only [kQ] at h; cases h
  exact ⟨[],rfl,fun i s e=>by simp at e⟩
 | c::av,l,h,k=>by
  simp only [kQ] at h
  split at h
  ·rename_i x l' e1 e2
   cases h
   obtain ⟨v,hv,hr⟩:=k 0 c rfl
   obtain ⟨ss,h1,h2⟩:=jEn (o:=o+1) (cs:=cs) (j:=j) e2 fun i x e=>by
    obtain ⟨v,hv,hr⟩:=k (i+1) x (by simpa using e)
    exact ⟨v,by rw [show o+1+i=o+(i+1) by omega]; exact hv,hr⟩
   cases c<;>simp only [jXf] at e1<;>cases e1
   obtain ⟨s,rfl,h3,h4⟩:=hr
   refine ⟨s::ss,by rw [List.map_cons,←h1]; congr 1; exact Prod.ext h3.symm h4.symm,fun i s' e=>?_⟩
   cases i with
   | zero=>simp at e; subst e; exact hv
   | succ i=>
    have:=h2 i s' (by simpa using e)
    rw [show o+1+i=o+(i+1) by omega] at this
    exact this
  ·cases h
theorem jAe:∀ {av:List AV} {l:List Tx},kQ av=some l→l.length=av.length
 | [],l,h=>by simp only [kQ] at h; cases h; rfl
 | c::av,l,h=>by
  simp only [kQ] at h
  split at h
  ·rename_i x l' e1 e2
   cases h
   simp [jAe e2]
  ·cases h
theorem qFv (args:List AV) (σ:Mem) (x:AV) (h:yE scS 46 args σ=some x) (B:Nat→Prop) (w0:World) (j:J) (w:World) (vs:List Value) (hr:Rel μ B w0 j σ w) (hl:RL μ j args vs) :
  Calls Tryz.prog 46 vs.toArray w fun e w'=>∃ v,e = .returned v∧RV μ j x v∧Below w.heap.size w w':=by
 simp only [yE] at h
 split at h
 ·rename_i y
  split at h
  ·rename_i l hl2
   split at h
   ·rename_i hb
    cases h
    obtain ⟨v,_,rfl,hv,_,_,rfl,⟨sep,rfl,q1,q2⟩,rfl⟩:=hl
    have hsep:sep.data.toList=[44,32]:=tG (by rw [show sep.data.toList.length=sep.size by simp,q1]; rfl) (by rw [q2]; decide)
    have nn0:∀ (a:Option Addr) (c:Nat),l=[]→Calls Tryz.prog 46 #[.slice a 0 c,.string sep] w fun e w'=>∃ v,e = .returned v∧RV μ j (.s (zS l).1 (zS l).2) v∧Below w.heap.size w w':=fun a c e=>by
     refine (Any.strings_Join_none Tryz.q156 Tryz.qX a c sep w).mono ?_
     rintro e' w' ⟨rfl,rfl⟩
     refine ⟨_,rfl,?_,Below.refl _ _⟩
     rw [e]
     exact ⟨_,rfl,rfl,rfl⟩
    unfold jMd at hl2
    split at hl2
    ·cases hl2
     cases hv
     exact nn0 _ _ rfl
    ·rename_i b o n
     split at hl2
     ·cases hl2
      rcases hv with ⟨_,_,a,c,rfl,_⟩ | ⟨g,cap,_,rfl,_⟩
      ·exact nn0 _ _ rfl
      ·exact nn0 _ _ rfl
     ·rename_i n
      split at hl2
      ·rename_i blk hg
       split at hl2
       ·rename_i cs' htk
        obtain ⟨rfl,hcl⟩:=zH _ _ _ htk
        rcases hv with ⟨_,h0,_⟩ | ⟨g,cap,hj,rfl,hc,_,_⟩
        ·cases h0
        ·obtain ⟨g',cs,fz,hj',_,hh,hcs,_,_,hbl,_,hcell⟩:=hr.get b blk hg
         rw [hj] at hj'; cases hj'
         obtain ⟨ss,e1,e2⟩:=jEn (μ:=μ) (j:=j) (cs:=cs) (o:=o) hl2 fun i x e=>by
          rw [List.getElem?_take] at e
          split at e
          ·rw [List.getElem?_drop] at e
           exact hcell _ x e
          ·cases e
         have hlen:ss.length=n+1:=by
          have h3:=jAe hl2
          rw [e1,List.length_map,List.length_take] at h3
          omega
         have hjl:=jFh ss
         rw [←e1] at hjl
         have hml:(zS l).1≤140737488355328:=Nat.le_trans (uP l) hb.1
         rw [hjl] at hml
         have hgc:g.c<w.heap.size:=(hr.dom b g hj).2.2
         have:=Any.strings_Join Tryz.q156 Tryz.qX g.c o cap ss sep w (fun i s e=>by
          have h4:=e2 i s e
          show w.cell? ⟨g.c,o+i,none⟩=_
          simp [World.cell?,hh,h4]) hgc (by rw [hlen]; have:=hb.2; rw [e1,List.length_map,hlen] at this; have e9:NB=1000000:=rfl; omega) (by rw [hlen]; exact hc) (by rw [hsep]; exact hml)
         rw [hlen] at this
         refine this.mono ?_
         rintro e' w' ⟨rfl,hbw⟩
         refine ⟨_,rfl,?_,hbw⟩
         rw [hjl,hsep]
         exact ⟨_,rfl,by simp [ByteArray.size],rfl⟩
       ·cases hl2
      ·cases hl2
    ·cases hl2
   ·cases h
  ·cases h
 ·cases h
end
end
end Go.Proofs.YtngfdcnglojcaaaGreatDoor.Ev.Fb
end
