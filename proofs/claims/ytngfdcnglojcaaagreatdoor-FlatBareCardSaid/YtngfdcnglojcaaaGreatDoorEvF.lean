/-
The operations of the small language that write or make memory, and calls, are the model's. No program is named here.
-/
import Derived.Test.YtngfdcnglojcaaaGreatDoorEvE
import Derived.Laws.RangeString
import Derived.Lib.MakeNoZero
set_option linter.all false
namespace Go.Proofs.YtngfdcnglojcaaaGreatDoor.Ev
noncomputable section
open Go Go.RowKit
section
variable {P:Program} {μ:Mu} {B:Nat→Prop} {w0 w:World} {j:J} {σ σ':Mem} {τ:T} {a:Act}
theorem Rel.add (h:Rel μ B w0 j σ w) {blk:zE} {b:Nat} (hn:σ.new blk=some (b,σ')) (cs:Array Value) (fz:Nat×Nat) (w':World) (c c2:Nat)
  (ho:w'.os=w.os) (ht:w'.tape=w.tape) (hu:w'.output=w.output) (hsz:w.heap.size≤w'.heap.size) (hB:¬ B c) (hB2:¬ B c2)
  (hnew:w'.heap[c]?=some (.cells cs blk.elem fz)) (hkeep:∀ k,k<w.heap.size→k≠c→k≠c2→w'.heap[k]?=w.heap[k]?)
  (hfree:∀ b' blk' g,σ.t.get b'=some blk'→j b'=some g→g.c≠c∧g.c≠c2) (hsi:∀ (k:Nat) (o:Obj),w.heap[k]?=some o→sT o→k≠c∧k≠c2)
  (hf:blk.plain=true→fz=(0,0)) (hth:jGt cs.size fz) (hlen:blk.cells.length≤cs.size) (h1:jN blk.cells=true)
  (hc:∀ (i:Nat) (x:AV),blk.cells[i]?=some x→∃ v:Value,cs[i]?=some v∧RV μ j x v) :
  b=σ.nx∧j.le (j.upd b ⟨c,cs.size⟩)∧Rel μ B w0 (j.upd b ⟨c,cs.size⟩) σ' w':=by
 unfold Mem.new at hn
 split at hn
 ·rename_i hlt
  have hlt':0≤σ.nx:=Nat.zero_le _
  simp only [Option.some.injEq,Prod.mk.injEq] at hn
  obtain ⟨rfl,rfl⟩:=hn
  have hle:=h.le_upd ⟨c,cs.size⟩
  have hcl:c<w'.heap.size:=(Array.getElem?_eq_some_iff.1 hnew).1
  refine ⟨rfl,hle,?_,?_,?_,?_,?_,?_,?_,h.iters hle fun k o hk hnc=>by rw [hkeep k (Array.getElem?_eq_some_iff.1 hk).1 (hsi _ _ hk hnc).1 (hsi _ _ hk hnc).2]; exact hk,h.itins hle,h.held⟩
  ·exact h.below.trans ⟨ho,ht,hu,hsz,fun k hk=>hkeep k (h.base k hk) (fun e=>hB (e ▸ hk)) (fun e=>hB2 (e ▸ hk))⟩
  ·intro k hk; have:=h.base k hk; omega
  ·show 0<σ.nx+1; omega
  ·exact Nat.zero_le _
  ·intro x bx hx
   rw [Tr.get_set30 _ _ _ _ (by omega)] at hx
   by_cases e:x=σ.nx
   ·subst e
    rw [if_pos rfl] at hx
    cases hx
    refine ⟨⟨c,cs.size⟩,cs,fz,by simp [J.upd],hB,hnew,rfl,hf,hth,hlen,h1,?_⟩
    intro i a ha
    obtain ⟨v,hv,hr⟩:=hc i a ha
    exact ⟨v,hv,hr.mono hle⟩
   ·rw [if_neg e] at hx
    obtain ⟨g,cs',fz',hj,hB',hh,h2,h3,h4,h5,h6,h7⟩:=h.get x bx hx
    have hfr:=hfree x bx g hx hj
    refine ⟨g,cs',fz',hle _ _ hj,hB',?_,h2,h3,h4,h5,h6,fun i a ha=>?_⟩
    ·rw [hkeep _ (h.dom _ _ hj).2.2 hfr.1 hfr.2]; exact hh
    ·obtain ⟨v,hv,hr⟩:=h7 i a ha
     exact ⟨v,hv,hr.mono hle⟩
  ·have hid:∀ y by_ gy,(Tr.put σ.t σ.nx (some blk)).get y=some by_→(j.upd σ.nx ⟨c,cs.size⟩) y=some gy→(y=σ.nx∧gy.c=c)∨(y≠σ.nx∧σ.t.get y=some by_∧j y=some gy∧gy.c≠c):=by
    intro y by_ gy hy hg
    rw [Tr.get_set30 _ _ _ _ (by omega)] at hy
    unfold J.upd at hg
    by_cases e:y=σ.nx
    ·rw [if_pos e] at hg
     cases hg
     exact .inl ⟨e,rfl⟩
    ·rw [if_neg e] at hy hg
     exact .inr ⟨e,hy,hg,(hfree _ _ _ hy hg).1⟩
   intro x x' bx bx' g g' hx hx' hg hg' hc'
   rcases hid x bx g hx hg with ⟨e,e2⟩ | ⟨e,e2,e3,e4⟩<;>rcases hid x' bx' g' hx' hg' with ⟨f,f2⟩ | ⟨f,f2,f3,f4⟩
   ·rw [e,f]
   ·omega
   ·omega
   ·exact h.inj _ _ _ _ _ _ e2 f2 e3 f3 hc'
  ·intro x g hg
   show 0<x∧x<σ.nx+1∧_
   unfold J.upd at hg
   by_cases e:x=σ.nx
   ·rw [if_pos e] at hg
    cases hg
    have:=h.pos
    exact ⟨by omega,by omega,hcl⟩
   ·rw [if_neg e] at hg
    have:=h.dom x g hg
    exact ⟨this.1,by omega,by omega⟩
 ·cases hn
theorem Rel.later (h:Rel μ B w0 j σ w) {w':World} (hb:Below w.heap.size w w'):Rel μ B w0 j σ w':=by
 refine ⟨h.below.trans ((gB.of_below hb).mono h.base),?_,h.pos,h.lid,?_,h.inj,fun b g hj=>?_,h.iters (J.le.refl _) fun k o hk _=>by rw [hb.block _ (Array.getElem?_eq_some_iff.1 hk).1]; exact hk,h.itin,h.held⟩
 ·intro k hk; have:=h.base k hk; have:=hb.size; omega
 ·intro b blk hb'
  obtain ⟨g,cs,fz,hj,hB,hh,r⟩:=h.get b blk hb'
  exact ⟨g,cs,fz,hj,hB,by rw [hb.block _ (h.dom _ _ hj).2.2]; exact hh,r⟩
 ·have:=h.dom b g hj; have:=hb.size
  exact ⟨by omega,by omega,by omega⟩
theorem jCs (g off:Nat) (t:TypeId) (fr:Nat×Nat):∀ (vs:List Value) (i:Nat) (cur:Array Value) (w:World),w.heap[g]?=some (.cells cur t fr)→jGt cur.size fr→off+i+vs.length≤cur.size→(∀ v∈vs,v.oneCell'=true) →
  ∃ (cur':Array Value) (w':World),(storeCells ⟨g,off,none⟩ vs i).run P w = .ok () w'∧w'.heap[g]?=some (.cells cur' t fr)∧cur'.size=cur.size∧(∀ k,cur'[k]?=if off+i≤k∧k<off+i+vs.length then vs[k - (off+i)]? else cur[k]?) ∧
   w'.os=w.os∧w'.tape=w.tape∧w'.output=w.output∧w'.heap.size=w.heap.size∧∀ k,k≠g→w'.heap[k]?=w.heap[k]?
 | [],i,cur,w,hg,_,_,_=>⟨cur,w,rfl,hg,rfl,fun k=>by rw [if_neg (by simp only [List.length_nil]; omega)],rfl,rfl,rfl,rfl,fun _ _=>rfl⟩
 | v::vs,i,cur,w,hg,hth,hl,h1=>by
  simp only [List.length_cons] at hl
  have hcell:w.cell? ⟨g,off+i,none⟩=some cur[off+i]:=by
   rw [cell_of_row w g (off+i) cur t fr hg]; exact Array.getElem?_eq_getElem (by omega)
  have hfz:w.frozen? ⟨g,off+i,none⟩=false:=by
   have:=hth (off+i) (by omega)
   simp only [World.frozen?,hg]
   simp only [Bool.and_eq_false_iff,decide_eq_false_iff_not]
   omega
  have hst:(store ((⟨g,off,none⟩:Addr).add i) v).run P w = .ok () (w.setCell ⟨g,off+i,none⟩ v):=by
   rw [fE,run_store P w _ v _ (h1 v (by simp)),hcell,hfz]
   rfl
  have hrow:(w.setCell ⟨g,off+i,none⟩ v).heap[g]?=some (.cells (cur.setIfInBounds (off+i) v) t fr):=by
   rw [setCell_eq_setRow w g (off+i) cur t fr v hg]
   exact setRow_heap w g cur _ t fr hg
  obtain ⟨cur',w',hrun,e1,e2,e3,e4,e5,e6,e7,e8⟩:=jCs g off t fr vs (i+1) (cur.setIfInBounds (off+i) v) (w.setCell ⟨g,off+i,none⟩ v) hrow (by simpa using hth) (by simp; omega) (fun u hu=>h1 u (by simp [hu]))
  refine ⟨cur',w',?_,e1,by simpa using e2,fun k=>?_,e4,e5,e6,by simpa using e7,fun k hk=>?_⟩
  ·simp only [storeCells,Sem.run_bind,hst,Result.andThen_ok,hrun]
  ·rw [e3 k]
   by_cases e:k=off+i
   ·subst e
    rw [if_neg (by omega),if_pos ⟨by omega,by simp⟩,Array.getElem?_setIfInBounds_self_of_lt (by omega)]
    simp
   ·rw [Array.getElem?_setIfInBounds_ne (Ne.symm e)]
    by_cases e2:off+(i+1)≤k∧k<off+(i+1)+vs.length
    ·rw [if_pos e2,if_pos ⟨by omega,by simp; omega⟩,show k - (off+i)=(k - (off+(i+1)))+1 from by omega]
     simp
    ·rw [if_neg e2,if_neg (by simp; omega)]
  ·rw [e8 k hk,Below.heap_setCell _ _ _ _ hk]
theorem Rel.store (h:Rel μ B w0 j σ w) (hμ:yF μ) {b o:Nat} {l:List AV} (hs:σ.store b o l=some σ') {g:G} (hj:j b=some g) {vs:List Value} (hv:RL μ j l vs) (h1:jN l=true) :
  ∃ w',(storeCells ⟨g.c,o,none⟩ vs).run P w = .ok () w'∧Rel μ B w0 j σ' w':=by
 unfold Mem.store at hs
 split at hs
 ·rename_i blk hb
  split at hs
  ·rename_i cs' hput
   simp only [Option.some.injEq] at hs; subst hs
   obtain ⟨g',cs,fz,hj',hB,hh,h2,h3,h4,h5,h6,h7⟩:=h.get b blk hb
   rw [hj] at hj'
   cases hj'
   have hlen:=RL.len _ _ hv
   have hol:=(gR _ _ _ _ hput).2
   obtain ⟨cur',w',hrun,e1,e2,e3,e4,e5,e6,e7,e8⟩:=jCs (P:=P) g.c o blk.elem fz vs 0 cs w hh h4 (by omega) (RL.ones hμ h1 hv)
   have hb0:=h.lt hb
   have hlid:=h.lid
   refine ⟨w',hrun,?_,?_,h.pos,h.lid,?_,?_,?_,h.iters (J.le.refl _) fun k o hk hnc=>by rw [e8 k (by rintro rfl; rw [hh] at hk; cases hk; exact hnc _ _ _ rfl)]; exact hk,h.itin,h.held⟩
   ·exact h.below.trans ⟨e4,e5,e6,by omega,fun k hk=>e8 k (fun e=>hB (e ▸ hk))⟩
   ·rw [e7]; exact h.base
   ·intro x bx hx
    rw [Tr.get_set30 _ _ _ _ (by omega)] at hx
    by_cases e:x=b
    ·subst e
     rw [if_pos rfl] at hx
     cases hx
     refine ⟨g,cur',fz,hj,hB,e1,by rw [e2]; exact h2,h3,by rw [e2]; exact h4,by rw [yQ hput,e2]; exact h5,?_,?_⟩
     ·have aux:∀ (m:List AV),(∀ (i:Nat) (x:AV),m[i]?=some x→x.one=true)→jN m=true:=by
       intro m
       induction m with
       | nil=>intro _; rfl
       | cons y r ih=>intro hm; simp only [jN,Bool.and_eq_true]; exact ⟨hm 0 y rfl,ih fun i x hx=>hm (i+1) x (by simpa using hx)⟩
      have aux2:∀ (m:List AV),jN m=true→∀ (i:Nat) (x:AV),m[i]?=some x→x.one=true:=by
       intro m
       induction m with
       | nil=>intro _ i x hx; simp at hx
       | cons y r ih=>
        intro hm i x hx
        simp only [jN,Bool.and_eq_true] at hm
        cases i with
        | zero=>simp at hx; subst hx; exact hm.1
        | succ i=>exact ih hm.2 i x (by simpa using hx)
      refine aux _ fun i x hx=>?_
      rw [yC hput] at hx
      split at hx
      ·exact aux2 _ h1 _ _ hx
      ·exact aux2 _ h6 _ _ hx
     ·intro i y hy
      rw [yC hput] at hy
      rw [e3 i]
      split at hy
      ·rename_i hi
       obtain ⟨v,hv',hr'⟩:=RL.nth _ _ hv _ _ hy
       exact ⟨v,by rw [if_pos (by omega)]; simpa using hv',hr'⟩
      ·rename_i hi
       obtain ⟨v,hv',hr'⟩:=h7 i y hy
       exact ⟨v,by rw [if_neg (by omega)]; exact hv',hr'⟩
    ·rw [if_neg e] at hx
     obtain ⟨g',cs2,fz2,hj2,hB2,hh2,r⟩:=h.get x bx hx
     have hne:g'.c≠g.c:=fun ec=>e (h.inj _ _ _ _ _ _ hx hb hj2 hj ec)
     exact ⟨g',cs2,fz2,hj2,hB2,by rw [e8 _ hne]; exact hh2,r⟩
   ·have sub:∀ x bx,(Tr.put σ.t b (some ⟨blk.elem,blk.plain,cs'⟩)).get x=some bx→∃ by_,σ.t.get x=some by_:=by
     intro x bx hx
     rw [Tr.get_set30 _ _ _ _ (by omega)] at hx
     by_cases e:x=b
     ·subst e; exact ⟨_,hb⟩
     ·rw [if_neg e] at hx; exact ⟨_,hx⟩
    intro x x' bx bx' g1 g2 hx hx' hg1 hg2 hc
    obtain ⟨y,hy⟩:=sub _ _ hx
    obtain ⟨y',hy'⟩:=sub _ _ hx'
    exact h.inj _ _ _ _ _ _ hy hy' hg1 hg2 hc
   ·intro x gx hx
    have:=h.dom x gx hx
    exact ⟨this.1,this.2.1,by omega⟩
  ·cases hs
 ·cases hs
def uU (P:Program) (μ:Mu) (call:xC):Prop:=
 ∀ (f:Nat) (args:List AV) (σ:Mem) (x:AV) (σ':Mem),call f args σ=some (x,σ')→∀ (B:Nat→Prop) (w0:World) (j:J) (w:World) (vs:List Value),Rel μ B w0 j σ w→RL μ j args vs →
  (∃ fn, P.funcs[f]? = some fn ∧ fn.body.isNone = false ∧ (fn.name == "runtime.NumGoroutine") = false) ∧
  Calls P f vs.toArray w fun e w'=>∃ (j':J) (v:Value),e = .returned v∧j.le j'∧RV μ j' x v∧Rel μ B w0 j' σ' w'
theorem vG {f : Nat} {fn : Func} (h1 : P.funcs[f]? = some fn) (h2 : fn.body.isNone = false) (h3 : (fn.name == "runtime.NumGoroutine") = false) (args : Array Value) : (callFunc f args).run P w = .ok (.enter f args) w := by
 unfold callFunc
 simp only [Sem.run_bind,run_program,Result.andThen_ok,h1]
 rw [if_neg (by rw [h3]; simp),if_neg (by rw [h2]; simp)]
 rfl
mutual
theorem jBa {j j':J}:∀ (x:AV) (v:Value),x.flat=true→RV μ j x v→RV μ j' x v
 | .b _,_,_,h=>h
 | .i _ _,_,_,h=>h
 | .s _ _,_,_,h=>h
 | .p0,_,hf,_=>by simp [AV.flat] at hf
 | .p _ _,_,hf,_=>by simp [AV.flat] at hf
 | .sl0,_,hf,_=>by simp [AV.flat] at hf
 | .sl _ _ _ _,_,hf,_=>by simp [AV.flat] at hf
 | .f0,_,hf,_=>by simp [AV.flat] at hf
 | .ni,_,_,h=>h
 | .ifc t x,v,hf,h=>by
  obtain ⟨u,e,h1⟩:=h
  exact ⟨u,e,jBa x u (by simpa [AV.flat] using hf) h1⟩
 | .f _ _ _,_,hf,_=>by simp [AV.flat] at hf
 | .m _,_,_,h=>h
 | .mp _,_,hf,_=>by simp [AV.flat] at hf
 | .ifx,_,_,h=>h
 | .mr _ _ _ _,_,_,h=>h
 | .fs _ _ _ _,_,_,h=>h
 | .fi _,_,_,h=>h
 | .fq _,_,_,h=>h
 | .sm l,v,hf,h=>by
  obtain ⟨a,e,h1⟩:=h
  exact ⟨a,e,nN l _ (by simpa [AV.flat] using hf) h1⟩
 | .agg _,_,hf,_=>by simp [AV.flat] at hf
 | .tup l,v,hf,h=>by
  obtain ⟨a,e,h1⟩:=h
  exact ⟨a,e,nN l _ (by simpa [AV.flat] using hf) h1⟩
theorem nN {j j':J}:∀ (x:List AV) (v:List Value),lE x=true→RL μ j x v→RL μ j' x v
 | [],_,_,h=>h
 | x::r,v,hf,h=>by
  simp only [lE,Bool.and_eq_true] at hf
  obtain ⟨u,t,e,h1,h2⟩:=h
  exact ⟨u,t,e,jBa x u hf.1 h1,nN r t hf.2 h2⟩
end
def j0:J:=fun _=>none
theorem qLx (w:World) (hw:jNp μ w):Rel μ (· < w.heap.size) w j0 bY w:=
 ⟨gB.refl _ _,fun _ h=>h,by decide,by decide,fun b blk h=>(by rw [show bY.t = .e from rfl,Tr.get_e] at h; cases h),fun b b' blk blk' g g' h=>(by rw [show bY.t = .e from rfl,Tr.get_e] at h; cases h),fun b g h=>(by cases h),fun b i h=>(by rw [show bY.it = .e from rfl,Tr.get_e] at h; cases h),fun b b' i i' g g' h=>(by rw [show bY.it = .e from rfl,Tr.get_e] at h; cases h),fun g o hg=>⟨(Array.getElem?_eq_some_iff.1 (hw g o hg)).1,hw g o hg⟩⟩
theorem qR {o:Oper} {v:Value} {w':World} {K:Act→World→Prop} {Q:Exit→Act→World→Prop} (h:(execOp a.eval o).run P w = .ok (.value v) w') (hk:K (a.put o.dst v) w'):o.wp P a w K Q:=by
 unfold Oper.wp
 rw [h]
 exact hk
theorem jDr {o:Oper} {w':World} {K:Act→World→Prop} {Q:Exit→Act→World→Prop} (h:(execOp a.eval o).run P w = .ok .skip w') (hk:K (a.put o.dst undef) w'):o.wp P a w K Q:=by
 unfold Oper.wp
 rw [h]
 exact hk
theorem mT {o:Oper} {f:FuncId} {args:Array Value} {K:Act→World→Prop} {Q:Exit→Act→World→Prop} {R:Value→World→Prop} (h:(execOp a.eval o).run P w = .ok (.enter f args) w)
  (hc:Calls P f args w fun e w'=>∃ v,e = .returned v∧R v w') (hk:∀ v w',R v w'→K (a.put o.dst v) w'):o.wp P a w K Q:=by
 unfold Oper.wp
 rw [h,Oper.upon_enter]
 refine hc.mono fun e w' ⟨v,he,hr⟩=>?_
 subst he
 exact hk v w' hr
def vO (P:Program) (μ:Mu) (B:Nat→Prop) (w0:World) (j:J) (o:Oper) (a:Act) (w:World) (x:AV) (σ':Mem):Prop:=
 ∀ (K:Act→World→Prop) (Q:Exit→Act→World→Prop),(∀ (j':J) (v:Value) (w':World),j.le j'→RV μ j' x v→Rel μ B w0 j' σ' w'→K (a.put o.dst v) w')→o.wp P a w K Q
theorem nT {e:Nat} {pl:Bool} {cells:List AV} {k:Nat→AV} {x:AV} (h:fC σ e pl cells k=some (x,σ')):∃ b,jN cells=true∧σ.new ⟨e,pl,cells⟩=some (b,σ')∧x=k b:=by
 unfold fC at h
 split at h
 ·rename_i h1
  split at h
  ·rename_i b s hn
   cases h
   exact ⟨b,h1,hn,rfl⟩
  ·cases h
 ·cases h
theorem oQ (hr:Rel μ B w0 j σ w) {o:Oper} {e:Nat} {cells:List AV} {k:Nat→AV} {x:AV} (h:fC σ e true cells k=some (x,σ')) {cs:Array Value} (hv:RL μ j cells cs.toList)
  {V:Value} (hrun:(execOp a.eval o).run P w = .ok (.value V) (w.alloc (.cells cs e))) (hV:∀ b,RV μ (j.upd b ⟨w.heap.size,cs.size⟩) (k b) V):vO P μ B w0 j o a w x σ':=by
 intro K Q hk
 obtain ⟨b,h1,hn,rfl⟩:=nT h
 have hlen:=RL.len _ _ hv
 obtain ⟨rfl,hle,hrel⟩:=hr.new hn cs (0,0) (w.alloc (.cells cs e)) rfl rfl rfl rfl (fun _=>rfl) (fun o _=>by simp) (by simpa using Nat.le_of_eq hlen.symm) h1
  (fun i x hx=>by obtain ⟨v,hv',hr'⟩:=RL.nth _ _ hv i x hx; exact ⟨v,by simpa using hv',hr'⟩)
 exact qR hrun (hk _ _ _ hle (hV _) hrel)
theorem qL (hμ:yF μ) (hr:Rel μ B w0 j σ w) (ht:RT μ j τ a) {o:Oper} {c:C} {x:AV} (hc:qO P o=some c) (hx:eP σ (jM c τ σ)=some (x,σ')):vO P μ B w0 j o a w x σ':=by
 unfold eP at hx
 split at hx
 ·rename_i v hv
  cases hx
  obtain ⟨u,hrun,hu⟩:=jZw hμ hr ht hc hv
  exact fun K Q hk=>qR hrun (hk _ _ _ (J.le.refl _) hu hr)
 ·cases hx
theorem jMg {e:Nat} {z:List AV} (hz:bA P e=some z):∃ v,(zeroValue e).run P w = .ok v w∧RL μ j z v.cells.toList:=by
 obtain ⟨i,v,hi,hv,hr,_⟩:=aO (μ:=μ) (j:=j) hz
 exact ⟨v,by simp [zeroValue,typeInfo,hi,hv],hr⟩
theorem jNq (hr:Rel μ B w0 j σ w) {o:Oper} {e:Nat} (ho:o.op = .alloc e) {z:List AV} (hz:bA P e=some z) {x:AV} (hx:fC σ e true z (fun b=>.p b 0)=some (x,σ')):vO P μ B w0 j o a w x σ':=by
 obtain ⟨v,hrun,hv⟩:=jMg (w:=w) (μ:=μ) (j:=j) hz
 refine oQ hr hx hv (V:=.pointer (some ⟨w.heap.size,0,none⟩)) ?_ (fun b=>⟨⟨w.heap.size,v.cells.size⟩,by simp [J.upd],rfl⟩)
 simp [execOp,ho,Instr.alloc,hrun,newVar,newRow]
theorem jWp (hμ:yF μ) (hr:Rel μ B w0 j σ w) (ht:RT μ j τ a) {o:Oper} {e:Nat} {y:Operand} (ho:o.op = .box e y) {y':X} (hy:xOf y=some y') {x:AV} (hx:eBx e (y'.ev τ).cells σ=some (x,σ')):vO P μ B w0 j o a w x σ':=by
 unfold eBx at hx
 split at hx
 ·refine oQ hr hx ((jJ hy ht).cells hμ) (V:=.pointer (some ⟨w.heap.size,0,none⟩)) ?_ (fun b=>⟨⟨w.heap.size,(a.eval y).cells.size⟩,by simp [J.upd],rfl⟩)
  simp [execOp,ho,Instr.box,newVar,newRow]
 ·cases hx
theorem jNr (hμ:yF μ) (hr:Rel μ B w0 j σ w) (ht:RT μ j τ a) {o:Oper} {t:Nat} {p y:Operand} (ho:o.op = .store t p y) {p' y':X} {n:Nat} (hn:xJ P t=some n) (hp:xOf p=some p') (hy:xOf y=some y') {x:AV}
  (hx:eSt n p' y' τ σ=some (x,σ')):vO P μ B w0 j o a w x σ':=by
 have h1:=jJ hp ht
 have h2:=(jJ hy ht).cells hμ
 unfold eSt at hx
 split at hx
 ·rename_i b off hb
  rw [hb] at h1
  obtain ⟨g,hg,he⟩:=h1
  unfold qGq at hx
  split at hx
  ·rename_i hs
   simp only [Bool.and_eq_true] at hs
   split at hx
   ·rename_i s hst
    cases hx
    obtain ⟨w',hrun,hrel⟩:=hr.store (P:=P) hμ hst hg h2 hs.2
    intro K Q hk
    refine jDr (w':=w') ?_ (hk j undef w' (J.le.refl _) ⟨#[],rfl,rfl⟩ hrel)
    have hsz:(a.eval y).cells.size=n:=by
     have:=RL.len _ _ h2
     rw [yB _ _ hs.1] at this
     simpa using this
    simp [execOp,ho,Instr.storeAt,Instr.sureAddr,he,storeVar,run_sizeOf hn,hsz,hrun]
   ·cases hx
  ·cases hx
 ·cases hx
theorem jUf (hr:Rel μ B w0 j σ w) (ht:RT μ j τ a) {call:xC} (hcall:uU P μ call) {o:Oper} {f:FuncId} {args:Array Operand} {ats:Array TypeId} (ho:o.op = .call ⟨.value (.func f),args,ats⟩)
  {xs:List X} (hxs:aN args.toList=some xs) {x:AV} (hx:call f (evs τ xs) σ=some (x,σ')):vO P μ B w0 j o a w x σ':=by
 intro K Q hk
 have hl:=wN hxs ht
 obtain ⟨⟨fn,h1,h2,h3⟩,hc⟩:=hcall f _ σ x σ' hx B w0 j w _ hr hl
 have e:(args.toList.map a.eval).toArray=args.map a.eval:=by rw [←Array.toList_map,Array.toArray_toList]
 rw [e] at hc
 refine mT (R:=fun v w'=>∃ j',j.le j'∧RV μ j' x v∧Rel μ B w0 j' σ' w') ?_ (hc.mono fun e w' ⟨j',v,he,h⟩=>⟨v,he,j',h⟩) (fun v w' ⟨j',a1,a2,a3⟩=>hk j' v w' a1 a2 a3)
 simp [execOp,ho,resolve,Act.eval,Deferred.ofValue,invoke,vG h1 h2 h3]
theorem qCk (hr:Rel μ B w0 j σ w) (ht:RT μ j τ a) {call:xC} (hcall:uU P μ call) {o:Oper} {f:FuncId} {args:Array Operand} {ats:Array TypeId} (ho:o.op = .call ⟨.value (.func f),args,ats⟩)
  {xs:List X} (hxs:aN args.toList=some xs) {x:AV} (hx:eCp call f (evs τ xs) σ=some (x,σ')):vO P μ B w0 j o a w x σ':=by
 intro K Q hk
 have hl:=wN hxs ht
 unfold eCp at hx
 split at hx
 ·rename_i hf
  split at hx
  ·rename_i v s hv
   split at hx
   ·rename_i hfv
    cases hx
    obtain ⟨⟨fn,h1,h2,h3⟩,hc⟩:=hcall f _ bY _ s hv (· < w.heap.size) w j0 w _ (qLx w hr.heldW) (nN _ _ hf hl)
    have e:(args.toList.map a.eval).toArray=args.map a.eval:=by rw [←Array.toList_map,Array.toArray_toList]
    rw [e] at hc
    refine mT (R:=fun v w'=>RV μ j x v∧Below w.heap.size w w') ?_ (hc.mono fun e w' ⟨j',v,he,_,h,hrel⟩=>⟨v,he,jBa _ _ hfv h,hrel.below.to_below⟩) (fun v w' ⟨a1,a2⟩=>hk j v w' (J.le.refl _) a1 (hr.later a2))
    simp [execOp,ho,resolve,Act.eval,Deferred.ofValue,invoke,vG h1 h2 h3]
   ·cases hx
  ·cases hx
 ·cases hx
mutual
theorem iC {p:Nat→Bool} {j1 j2:J} (h0:j1 0=none) (hj:∀ b,p b=true→j1 b=j2 b):∀ (x:AV) (v:Value),x.okIn p=true→RV μ j1 x v→RV μ j2 x v
 | .b _,_,_,h=>h
 | .i _ _,_,_,h=>h
 | .s _ _,_,_,h=>h
 | .p0,_,_,h=>h
 | .p b o,v,hp,h=>by
  obtain ⟨g,e,r⟩:=h
  exact ⟨g,by rw [←hj b (by simpa [AV.okIn] using hp)]; exact e,r⟩
 | .sl0,_,_,h=>h
 | .sl b o n z,v,hp,h=>by
  rcases h with h | ⟨g,c,e,r⟩
  ·exact .inl h
  ·refine .inr ⟨g,c,?_,r⟩
   simp only [AV.okIn,Bool.or_eq_true,Bool.and_eq_true] at hp
   rcases hp with hp | ⟨hb,_⟩
   ·rw [←hj b hp]; exact e
   ·obtain rfl:=Nat.eq_of_beq_eq_true hb
    rw [h0] at e; cases e
 | .f0,_,_,h=>h
 | .ni,_,_,h=>h
 | .ifc t x,v,hp,h=>by
  obtain ⟨u,e,h⟩:=h
  exact ⟨u,e,iC h0 hj x u (by simpa [AV.okIn] using hp) h⟩
 | .f fn a c,v,hp,h=>by
  simp only [AV.okIn,Bool.and_eq_true] at hp
  obtain ⟨va,vc,e,h1,h2⟩:=h
  exact ⟨va,vc,e,uN h0 hj a _ hp.1 h1,uN h0 hj c _ hp.2 h2⟩
 | .m _,_,_,h=>h
 | .ifx,_,_,h=>h
 | .mr _ _ _ _,_,_,h=>h
 | .fs _ _ _ _,_,_,h=>h
 | .fi _,_,_,h=>h
 | .fq _,_,_,h=>h
 | .sm l,v,hp,h=>by
  obtain ⟨a,e,h⟩:=h
  exact ⟨a,e,uN h0 hj l _ (by simpa [AV.okIn] using hp) h⟩
 | .mp b,v,hp,h=>by
  rcases h with h | ⟨g,e,r⟩
  ·exact .inl h
  ·refine .inr ⟨g,?_,r⟩
   simp only [AV.okIn,Bool.or_eq_true] at hp
   rcases hp with hp | hb
   ·rw [←hj b hp]; exact e
   ·obtain rfl:=Nat.eq_of_beq_eq_true hb
    rw [h0] at e; cases e
 | .agg l,v,hp,h=>by
  obtain ⟨a,e,h⟩:=h
  exact ⟨a,e,uN h0 hj l _ (by simpa [AV.okIn] using hp) h⟩
 | .tup l,v,hp,h=>by
  obtain ⟨a,e,h⟩:=h
  exact ⟨a,e,uN h0 hj l _ (by simpa [AV.okIn] using hp) h⟩
theorem uN {p:Nat→Bool} {j1 j2:J} (h0:j1 0=none) (hj:∀ b,p b=true→j1 b=j2 b):∀ (x:List AV) (v:List Value),mJ p x=true→RL μ j1 x v→RL μ j2 x v
 | [],_,_,h=>h
 | x::r,l,hp,h=>by
  simp only [mJ,Bool.and_eq_true] at hp
  obtain ⟨v,t,e,h1,h2⟩:=h
  exact ⟨v,t,e,iC h0 hj x v hp.1 h1,uN h0 hj r t hp.2 h2⟩
end
mutual
theorem jKv {j1:J} {k:Nat} (hk:0<k):∀ (x:AV) (v:Value),x.hasB k=true→RV μ j1 x v→∃ g,j1 k=some g
 | .b _,_,hp,_=>by simp [AV.hasB] at hp
 | .i _ _,_,hp,_=>by simp [AV.hasB] at hp
 | .s _ _,_,hp,_=>by simp [AV.hasB] at hp
 | .p0,_,hp,_=>by simp [AV.hasB] at hp
 | .p b o,v,hp,h=>by
  obtain ⟨g,e,r⟩:=h
  obtain rfl:b=k:=Nat.eq_of_beq_eq_true (by simpa [AV.hasB] using hp)
  exact ⟨g,e⟩
 | .sl0,_,hp,_=>by simp [AV.hasB] at hp
 | .sl b o n z,v,hp,h=>by
  obtain rfl:b=k:=Nat.eq_of_beq_eq_true (by simpa [AV.hasB] using hp)
  rcases h with ⟨h,_⟩ | ⟨g,c,e,r⟩
  ·omega
  ·exact ⟨g,e⟩
 | .f0,_,hp,_=>by simp [AV.hasB] at hp
 | .ni,_,hp,_=>by simp [AV.hasB] at hp
 | .ifc t x,v,hp,h=>by
  obtain ⟨u,e,h⟩:=h
  exact jKv hk x u (by simpa [AV.hasB] using hp) h
 | .f fn a c,v,hp,h=>by
  simp only [AV.hasB,Bool.or_eq_true] at hp
  obtain ⟨va,vc,e,h1,h2⟩:=h
  rcases hp with hp | hp
  ·exact vW hk a _ hp h1
  ·exact vW hk c _ hp h2
 | .m _,_,hp,_=>by simp [AV.hasB] at hp
 | .ifx,_,hp,_=>by simp [AV.hasB] at hp
 | .mr _ _ _ _,_,hp,_=>by simp [AV.hasB] at hp
 | .fs _ _ _ _,_,hp,_=>by simp [AV.hasB] at hp
 | .fi _,_,hp,_=>by simp [AV.hasB] at hp
 | .fq _,_,hp,_=>by simp [AV.hasB] at hp
 | .sm l,v,hp,h=>by
  obtain ⟨a,e,h⟩:=h
  exact vW hk l _ (by simpa [AV.hasB] using hp) h
 | .mp b,v,hp,h=>by
  obtain rfl:b=k:=Nat.eq_of_beq_eq_true (by simpa [AV.hasB] using hp)
  rcases h with ⟨h,_⟩ | ⟨g,e,r⟩
  ·omega
  ·exact ⟨g,e⟩
 | .agg l,v,hp,h=>by
  obtain ⟨a,e,h⟩:=h
  exact vW hk l _ (by simpa [AV.hasB] using hp) h
 | .tup l,v,hp,h=>by
  obtain ⟨a,e,h⟩:=h
  exact vW hk l _ (by simpa [AV.hasB] using hp) h
theorem vW {j1:J} {k:Nat} (hk:0<k):∀ (x:List AV) (v:List Value),dZ k x=true→RL μ j1 x v→∃ g,j1 k=some g
 | [],_,hp,_=>by simp [dZ] at hp
 | x::r,l,hp,h=>by
  simp only [dZ,Bool.or_eq_true] at hp
  obtain ⟨v,t,e,h1,h2⟩:=h
  rcases hp with hp | hp
  ·exact jKv hk x v hp h1
  ·exact vW hk r t hp h2
end
theorem qNa (hr:Rel μ B w0 j σ w):Rel μ (· < w.heap.size) w (fun b=>if b<500000000 then j b else none) jIe w:=
 ⟨gB.refl _ _,fun _ h=>h,by decide,by decide,fun b blk h=>(by rw [show jIe.t = .e from rfl,Tr.get_e] at h; cases h),fun b b' blk blk' g g' h=>(by rw [show jIe.t = .e from rfl,Tr.get_e] at h; cases h),fun b g h=>(by
  have h':(if b<500000000 then j b else none)=some g:=h
  split at h'
  ·rename_i hlt
   have:=hr.dom b g h'
   exact ⟨this.1,hlt,this.2.2⟩
  ·cases h'),fun b i h=>(by rw [show jIe.it = .e from rfl,Tr.get_e] at h; cases h),fun b b' i i' g g' h=>(by rw [show jIe.it = .e from rfl,Tr.get_e] at h; cases h),fun g o hg=>⟨(Array.getElem?_eq_some_iff.1 (hr.heldW g o hg)).1,hr.heldW g o hg⟩⟩
theorem qCl (hr:Rel μ B w0 j σ w) (ht:RT μ j τ a) {call:xC} (hcall:uU P μ call) {o:Oper} {f:FuncId} {args:Array Operand} {ats:Array TypeId} (ho:o.op = .call ⟨.value (.func f),args,ats⟩)
  {xs:List X} (hxs:aN args.toList=some xs) {x:AV} (hx:eCq call f (evs τ xs) σ=some (x,σ')):vO P μ B w0 j o a w x σ':=by
 intro K Q hk
 have hl:=wN hxs ht
 have j00:j 0=none:=by
  cases e:j 0 with
  | none=>rfl
  | some g=>have:=(hr.dom 0 g e).1; omega
 unfold eCq at hx
 split at hx
 ·rename_i hf
  unfold jOe at hx
  split at hx
  ·rename_i v s hv
   split at hx
   ·rename_i hin
    cases hx
    have hl2:=uN (j2:=fun b=>if b<500000000 then j b else none) j00 (fun b hb=>by
     have hb':b<500000000:=by simpa [Nat.blt_eq] using hb
     simp only [hb',if_true]) _ _ hf hl
    obtain ⟨⟨fn,h1,h2,h3⟩,hc⟩:=hcall f _ jIe _ s hv (· < w.heap.size) w _ w _ (qNa hr) hl2
    have e:(args.toList.map a.eval).toArray=args.map a.eval:=by rw [←Array.toList_map,Array.toArray_toList]
    rw [e] at hc
    refine mT (R:=fun v w'=>RV μ j x v∧Below w.heap.size w w') ?_ (hc.mono fun e w' ⟨j',v,he,hle,h,hrel⟩=>⟨v,he,iC (j2:=j) (by
      cases e:j' 0 with
      | none=>rfl
      | some g=>have:=(hrel.dom 0 g e).1; omega) (fun b hb=>by
      simp only [Bool.and_eq_true,Nat.blt_eq] at hb
      obtain ⟨g,hg⟩:=vW hb.1 _ _ hb.2 hl2
      rw [hle b g hg]
      have hg':(if b<500000000 then j b else none)=some g:=hg
      split at hg'
      ·exact hg'.symm
      ·cases hg') _ _ hin h,hrel.below.to_below⟩) (fun v w' ⟨a1,a2⟩=>hk j v w' (J.le.refl _) a1 (hr.later a2))
    simp [execOp,ho,resolve,Act.eval,Deferred.ofValue,invoke,vG h1 h2 h3]
   ·cases hx
  ·cases hx
 ·cases hx
theorem jGv (hr:Rel μ B w0 j σ w) (ht:RT μ j τ a) {call:xC} (hcall:uU P μ call) {o:Oper} {p:Operand} {args:Array Operand} {ats:Array TypeId} (ho:o.op = .call ⟨.value p,args,ats⟩)
  {p':X} (hp:xOf p=some p') {xs:List X} (hxs:aN args.toList=some xs) {x:AV} (hx:eCv call (p'.ev τ) (evs τ xs) σ=some (x,σ')):vO P μ B w0 j o a w x σ':=by
 intro K Q hk
 have hl:=wN hxs ht
 have h0:=jJ hp ht
 unfold eCv at hx
 split at hx
 ·rename_i fid l1 l2 he
  rw [he] at h0
  obtain ⟨va,vc,e1,r1,r2⟩:=h0
  obtain ⟨⟨fn,h1,h2,h3⟩,hc⟩:=hcall fid _ σ x σ' hx B w0 j w _ hr ((r1.append hl).append r2)
  have e:(va.toList++args.toList.map a.eval++vc.toList).toArray=va++args.map a.eval++vc:=by simp
  rw [e] at hc
  refine mT (R:=fun v w'=>∃ j',j.le j'∧RV μ j' x v∧Rel μ B w0 j' σ' w') ?_ (hc.mono fun e w' ⟨j',v,he,h⟩=>⟨v,he,j',h⟩) (fun v w' ⟨j',a1,a2,a3⟩=>hk j' v w' a1 a2 a3)
  simp [execOp,ho,resolve,e1,Deferred.ofValue,invoke,vG h1 h2 h3]
 ·cases hx
theorem jBx {m:String} {t f:Nat}:∀ {l:List Nat},jBt t (jLh P m l)=some f→jSc P m t=some f
 | [],h=>by cases h
 | u::r,h=>by
  simp only [jLh] at h
  split at h
  ·rename_i g hg
   simp only [jBt] at h
   split at h
   ·rename_i e
    cases h
    rw [←Nat.eq_of_beq_eq_true e]; exact hg
   ·exact jBx h
  ·exact jBx h
theorem jPg {m:String} {t f:Nat} (h:jSc P m t=some f) (u:Value) (n:Nat):(method (n+1) t u m).run P w = .ok (f,u) w:=by
 unfold jSc at h
 split at h<;>first | (cases h; done) | skip
 rename_i i hi
 split at h<;>first | (cases h; done) | skip
 rename_i r hr
 split at h<;>first | (cases h; done) | skip
 rename_i hpath
 have hpath':r.path.toList=[]:=by simpa using hpath
 split at h<;>first | (cases h; done) | skip
 rename_i g pr hfn
 unfold method
 split at h<;>cases h
 all_goals
  rename_i hu
  simp [typeInfo,hi,hr,hpath',follow,hfn,receiverAt,run_underlying hu,Place.get]
theorem qCm (hr:Rel μ B w0 j σ w) (ht:RT μ j τ a) {call:xC} (hcall:uU P μ call) {o:Oper} {p:Operand} {m:String} {args:Array Operand} {ats:Array TypeId} (ho:o.op = .call ⟨.invoke p m,args,ats⟩)
  {y:X} {xs:List X} (hy:xOf p=some y) (hxs:aN args.toList=some xs) {x:AV} (hx:eIk call (qLl P m) (y.ev τ) (evs τ xs) σ=some (x,σ')):vO P μ B w0 j o a w x σ':=by
 intro K Q hk
 have h1:=jJ hy ht
 have hl:=wN hxs ht
 unfold eIk at hx
 split at hx<;>first | (cases hx; done) | skip
 rename_i t v hv
 rw [hv] at h1
 obtain ⟨u,e1,hu⟩:=h1
 split at hx<;>first | (cases hx; done) | skip
 rename_i f hf
 have hm:=jBx hf
 obtain ⟨⟨fn,g1,g2,g3⟩,hc⟩:=hcall f _ σ x σ' hx B w0 j w (u::args.toList.map a.eval) hr ⟨u,_,rfl,hu,hl⟩
 have e:(u::args.toList.map a.eval).toArray = #[u]++args.map a.eval:=by
  rw [←Array.toList_inj]; simp
 rw [e] at hc
 refine mT (f:=f) (args := #[u]++args.map a.eval) ?_ (hc.mono fun e w' ⟨j',v',he,hj,hrv,hr2⟩=>⟨v',he,j',hj,hrv,hr2⟩) (R:=fun v' w'=>∃ j',j.le j'∧RV μ j' x v'∧Rel μ B w0 j' σ' w') fun v' w' ⟨j',hj,hrv,hr2⟩=>hk j' v' w' hj hrv hr2
 have hmr:∀ n,(method (n+1) t u m).run P w = .ok (f,u) w:=jPg hm u
 have hfuel:P.types.size+Made.depth=(P.types.size+99)+1:=by simp [Made.depth]
 have hex:(#[Value.iface t u]++args.map a.eval).extract 1 (#[Value.iface t u]++args.map a.eval).size=args.map a.eval:=by simp
 have h0:(#[Value.iface t u]++args.map a.eval)[0]?=some (.iface t u):=by rw [Array.getElem?_append_left (by simp)]; rfl
 have hm2:(method (P.types.size+Made.depth) t u m).run P w = .ok (f,u) w:=by rw [hfuel]; exact hmr _
 have hcm:(callMethod (.iface t u) m (args.map a.eval)).run P w = .ok (.enter f (#[u]++args.map a.eval)) w:=by
  unfold callMethod
  simp only [Sem.run_bind,run_program,Result.andThen_ok,hm2,vG g1 g2 g3]
 have hinv:(invoke (.fn (.method m) #[]) (#[Value.iface t u]++args.map a.eval)).run P w = .ok (.enter f (#[u]++args.map a.eval)) w:=by
  unfold invoke
  simp only [h0,hex]
  exact hcm
 rw [←e1] at hinv
 simp only [execOp,ho,resolve,Sem.run_bind,Sem.run_pure,Result.andThen_ok]
 exact hinv
theorem gT (z:List AV):∀ n,(sJ z n).length=n*z.length
 | 0=>by simp [sJ]
 | n+1=>by rw [sJ,List.length_append,gT z n,Nat.add_mul]; omega
theorem aA (z:List AV) (hz:0<z.length):∀ (n i:Nat),i<n*z.length→(sJ z n)[i]?=z[i % z.length]?
 | 0,i,h=>by simp at h
 | n+1,i,h=>by
  rw [sJ]
  by_cases hi:i<z.length
  ·rw [List.getElem?_append_left hi,Nat.mod_eq_of_lt hi]
  ·rw [List.getElem?_append_right (by omega),aA z hz n (i - z.length) (by rw [Nat.add_mul] at h; omega)]
   congr 1
   rw [←Nat.mod_eq_sub_mod (by omega)]
theorem jSs {z:List AV} {zc:Array Value} (hz:RL μ j z zc.toList) (hp:0<z.length) (n:Nat):RL μ j (sJ z n) ((Array.range (n*z.length)).map (zc[· % zc.size]!)).toList:=by
 have hl:zc.size=z.length:=by simpa using RL.len _ _ hz
 refine RL.of_nth _ _ (by simp [gT]) fun i x hx=>?_
 have hi:i<n*z.length:=by
  have:=(List.getElem?_eq_some_iff.1 hx).1
  rwa [gT] at this
 rw [aA z hp n i hi] at hx
 obtain ⟨v,hv,hr⟩:=RL.nth _ _ hz _ _ hx
 refine ⟨v,?_,hr⟩
 have hm:i % z.length<zc.size:=by rw [hl]; exact Nat.mod_lt _ hp
 have hv':zc[i % z.length]?=some v:=by simpa using hv
 simp only [Array.getElem?_toList,Array.getElem?_map,hl]
 rw [Array.getElem?_range,if_pos hi]
 simp only [Option.map_some]
 congr 1
 rw [getElem!_pos zc _ hm]
 exact (Array.getElem?_eq_some_iff.1 hv').2
theorem qCj (hμ:yF μ) (hr:Rel μ B w0 j σ w) (ht:RT μ j τ a) {o:Oper} {t len:Nat} {parts:Array (Nat×Operand)} (ho:o.op = .buildSlice t len parts) {e n:Nat} {z:List AV} {ps:List (Nat×Nat×X)}
  (hu:P.underlying t=some (.slice e)) (hn:xJ P e=some n) (hz:bA P e=some z) (hs:zD n z=true) (hn0:0<n) (hlim:len*n≤16777216) (hps:dE n parts.toList=some ps) (hlid:len≤maxLen) {x:AV}
  (hx:eBs e n len (wT τ ps (sJ z len)) σ=some (x,σ')):vO P μ B w0 j o a w x σ':=by
 unfold eBs at hx
 split at hx
 ·rename_i l hl
  obtain ⟨zv,hzr,hzl⟩:=jMg (w:=w) (μ:=μ) (j:=j) hz
  have hzn:=yB _ _ hs
  have hzs:zv.cells.size=n:=by have:=RL.len _ _ hzl; rw [hzn] at this; simpa using this
  obtain ⟨cells,hf,hrl⟩:=oE hμ (fun i=>some (i*n,n)) ht parts.toList ps (sJ z len) l _ (sG n _ _ hps) hl (jSs hzl (by omega) len)
  have hmap:(parts.map fun (x:Nat×Operand)=>(x.1,a.eval x.2)).toList=parts.toList.map fun p=>(p.1,a.eval p.2):=by simp
  have hcs:cells.size=len*n:=by
   have h1:=RL.len _ _ hrl
   have h2:l.length=(sJ z len).length:=by
    have aux:∀ (ps:List (Nat×Nat×X)) (z l:List AV),wT τ ps z=some l→l.length=z.length:=by
     intro ps
     induction ps with
     | nil=>intro z l h; simp only [wT,Option.some.injEq] at h; subst h; rfl
     | cons p r ih=>
      intro z l h
      obtain ⟨off,m,y⟩:=p
      simp only [wT] at h
      split at h
      ·split at h
       ·rename_i z' hz'
        rw [ih z' l h,yQ hz']
       ·cases h
      ·cases h
    exact aux _ _ _ hl
   rw [h2,gT,hzn] at h1
   simpa using h1
  refine oQ hr hx hrl (V:=.slice (some ⟨w.heap.size,0,none⟩) len len) ?_ (fun b=>.inr ⟨⟨w.heap.size,cells.size⟩,len,by simp [J.upd],rfl,Nat.le_refl _,hlid,by simp [hcs]⟩)
  have hlim':¬ 16777216<len*n:=by omega
  have hfill:Instr.fill (fun i=>some (i*n,n)) ((Array.range (len*n)).map (zv.cells[· % zv.cells.size]!)) (parts.toList.map fun x=>(x.1,a.eval x.2))=some cells:=by
   rw [←hf,hzn]
  have hr0:Array.range 0 = #[]:=rfl
  by_cases h0:len*n=0
  ·have hfill':Instr.fill (fun i=>some (i*n,n)) #[] (parts.toList.map fun x=>(x.1,a.eval x.2))=some cells:=by
    rw [←hfill,h0,hr0,Array.map_empty]
   simp only [execOp,ho,Instr.buildSlice,Sem.run_bind,run_underlying hu,Result.andThen_ok,run_sizeOf hn]
   simp [h0,hr0,hfill',newRow]
  ·simp only [execOp,ho,Instr.buildSlice,Sem.run_bind,run_underlying hu,Result.andThen_ok,run_sizeOf hn]
   simp [h0,hlim',hzr,newRow,hfill]
 ·cases hx
theorem jJj (hr:Rel μ B w0 j σ w) (ht:RT μ j τ a) {o:Oper} {src dst:Nat} {y:Operand} (ho:o.op = .convert src dst y) {e:Nat} (hs:P.underlying src=some .string) (hd:P.underlying dst=some (.slice e)) (hue:P.underlying e=some (.int .u8))
  {s:ByteArray} (e1:a.eval y = .string s) (hlen':s.size≤1000000000) {news:List AV} (hv:RL μ j news (s.data.toList.map fun b=>Value.int .u8 b.toNat)) {x:AV} (hx:fC σ e false news (fun b=>.sl b 0 s.size 1)=some (x,σ')):vO P μ B w0 j o a w x σ':=by
 intro K Q hk
 obtain ⟨b,hone,hn,rfl⟩:=nT hx
 have hge:=grownCap_ge w s.size 0 e
 have hcm:=grownCap_le_maxLen w s.size 0 e (by unfold maxLen; omega)
 generalize hcap:grownCap w s.size 0 e=cap at hge hcm
 generalize hcs:(s.data.map fun b=>Value.int .u8 b.toNat)++Array.replicate (cap - s.size) (Value.int .u8 0)=cs
 have hcss:cs.size=cap:=by
  rw [←hcs]
  have:s.data.size=s.size:=rfl
  simp; omega
 have hw:∃ w',(execOp a.eval o).run P w = .ok (.value (.slice (some ⟨w.heap.size,0,none⟩) s.size cap)) w'∧w'.heap[w.heap.size]?=some (.cells cs e (cap,cap+1))∧(∀ k,k<w.heap.size→w'.heap[k]?=w.heap[k]?)∧w'.os=w.os∧w'.tape=w.tape∧w'.output=w.output∧w'.heap.size=w.heap.size+1:=by
  refine ⟨(w.drew.alloc (.cells cs e)).freeze ⟨w.heap.size,cap,none⟩ 1,?_,?_,?_,rfl,rfl,rfl,?_⟩
  ·have hc:(Question.appendCap s.size 0 e).cut (w.tape w.drawn (.appendCap s.size 0 e))=cap:=by rw [←hcap]; rfl
   have hsh:(w.drew.alloc (.cells cs e)).shape? w.heap.size=some (e,cap):=by
    simp only [World.shape?]
    have:=heap_alloc_new w.drew (.cells cs e)
    rw [show w.drew.heap.size=w.heap.size from rfl] at this
    rw [this]
    show some (e,cs.size)=_
    rw [hcss]
   simp [execOp,ho,convert,run_underlying hs,run_underlying hd,run_underlying hue,e1,Conv.stringToBytes,Question.forced,hc,hcs,newRow,markStringish,hsh]
  ·simp only [World.freeze]
   have:=heap_alloc_new w.drew (.cells cs e)
   rw [show w.drew.heap.size=w.heap.size from rfl] at this
   rw [if_neg (by simp),Array.getElem?_modify,if_pos rfl,this]
   rfl
  ·intro k hk
   simp only [World.freeze]
   have:=Below.heap_alloc w.drew (.cells cs e) k hk
   rw [if_neg (by simp),Array.getElem?_modify,if_neg (fun e=>by have e':w.heap.size=k:=e; omega),this]
   rfl
  ·simp [World.freeze]
 obtain ⟨w',hrun,hnew,hold,ho',ht',hu',hsz⟩:=hw
 obtain ⟨rfl,hle,hrel⟩:=hr.add hn cs (cap,cap+1) w' w.heap.size w.heap.size ho' ht' hu' (by omega) hr.fresh hr.fresh hnew (fun k hk _ _=>hold k hk)
  (fun b' blk' g hb hg=>by have:=(hr.dom b' g hg).2.2; omega) (fun k o hs _=>by have:=(Array.getElem?_eq_some_iff.1 hs).1; exact ⟨by omega,by omega⟩) (fun h=>by cases h) (fun o h=>by omega)
  (by have:=RL.len _ _ hv; simp only [List.length_map,Array.length_toList] at this; show news.length≤_; have:s.data.size=s.size:=rfl; omega) hone
  (fun i z hz=>by
   obtain ⟨v,hv',hr'⟩:=RL.nth _ _ hv i z hz
   refine ⟨v,?_,hr'⟩
   have hi:=(List.getElem?_eq_some_iff.1 hv').1
   rw [←hcs,Array.getElem?_append_left (by simpa using hi)]
   simpa using hv')
 refine qR hrun (hk _ _ _ hle (.inr ⟨⟨w.heap.size,cs.size⟩,cap,by simp [J.upd],rfl,hge,hcm,by simp [hcss]⟩) hrel)
theorem gI {l:List AV} {s:ByteArray} (h:RL μ j l (s.data.toList.map fun b=>Value.int .u8 b.toNat)):bW l 0=s.size:=by
 have:=RL.len _ _ h
 simp only [List.length_map,Array.length_toList] at this
 rw [wH,Nat.add_zero,←this]; rfl
theorem qFu:∀ {l:List AV} {bs:List UInt8},RL μ j l (bs.map fun b=>Value.int .u8 b.toNat)→jN l=true
 | [],_,_=>rfl
 | x::l,bs,h=>by
  obtain ⟨v,t,e,hv,ht⟩:=h
  cases bs with
  | nil=>cases e
  | cons b bs=>
   simp only [List.map_cons,List.cons.injEq] at e
   obtain ⟨rfl,rfl⟩:=e
   simp only [jN,Bool.and_eq_true]
   refine ⟨?_,qFu ht⟩
   cases x<;>first | rfl | (obtain ⟨a,e,_⟩:=hv; cases e)
theorem qCt (hr:Rel μ B w0 j σ w) (ht:RT μ j τ a) {o:Oper} {src dst:Nat} {y:Operand} (ho:o.op = .convert src dst y) {e:Nat} (hs:P.underlying src=some .string) (hd:P.underlying dst=some (.slice e)) (hue:P.underlying e=some (.int .u8))
  {y':X} (hy:xOf y=some y') {x:AV} (hx:eSb e y' τ σ=some (x,σ')):vO P μ B w0 j o a w x σ':=by
 have h1:=jJ hy ht
 unfold eSb at hx
 split at hx
 ·rename_i n u hl
  rw [hl] at h1
  obtain ⟨s,e1,e2,e3⟩:=h1
  subst e2
  split at hx
  ·rename_i hlen
   have hlen':s.size≤1000000000:=by simpa using hlen
   have hdec:tD s.size u=s.data.toList.map UInt8.toNat:=by
    rw [←e3,show s.size=s.data.toList.length from by simp,uY]
   exact jJj hr ht ho hs hd hue e1 hlen' (by rw [hdec]; exact jDk _) hx
  ·cases hx
 ·rename_i l hl
  rw [hl] at h1
  obtain ⟨s,e1,e2⟩:=h1
  rw [gI e2] at hx
  split at hx
  ·rename_i hlen
   have hlen':s.size≤1000000000:=by simpa using hlen
   exact jJj hr ht ho hs hd hue e1 hlen' e2 hx
  ·cases hx
 ·cases hx
theorem qEt (hr:Rel μ B w0 j σ w) {sz m:Nat} {x:AV} {news:List AV} (h:aH σ sz x=some (m,news)) {v:Value} (hv:RV μ j x v) :
  ∃ A c vs,v = .slice A m c∧jJi w w.heap.size sz A m vs∧RL μ j news vs∧jN news=true:=by
 unfold aH at h
 split at h
 ·cases h
  exact ⟨none,0,[],hv,jJi.none_,rfl,rfl⟩
 ·rename_i b o n sz'
  split at h
  ·rename_i hsz
   obtain rfl:sz=sz':=by simpa using hsz
   split at h
   ·rename_i hn
    obtain rfl:n=0:=by simpa using hn
    cases h
    have:∃ A c,v = .slice A 0 c:=by
     rcases hv with ⟨_,_,ad,c,rfl,_⟩ | ⟨g,cap,_,rfl,_⟩<;>exact ⟨_,_,rfl⟩
    obtain ⟨A,c,rfl⟩:=this
    exact ⟨A,c,[],rfl,⟨by simp,fun h=>absurd h (by omega)⟩,rfl,rfl⟩
   ·rename_i hn
    split at h
    ·rename_i l hl
     cases h
     rcases hv with ⟨_,e0,_⟩ | ⟨g,cap,hg,rfl,_⟩
     ·subst e0; simp at hn
     ·obtain ⟨vs,hlen,hrl,_,h1,hc⟩:=hr.load hl hg
      exact ⟨_,_,vs,rfl,⟨hlen,fun _=>⟨_,rfl,(hr.dom _ _ hg).2.2,hc⟩⟩,hrl,h1⟩
    ·cases h
  ·cases h
 ·cases h
theorem lJ {xs:List Value} {cur:Array Value} {n:Nat} (h:cur.toList.take n=xs) {i:Nat} {v:Value} (hv:xs[i]?=some v):cur[i]?=some v:=by
 rw [←h,List.getElem?_take] at hv
 split at hv
 ·simpa using hv
 ·cases hv
theorem jPy (hr:Rel μ B w0 j σ w) (ht:RT μ j τ a) {o:Oper} {p:Operand} {e sz by_ m:Nat} {p':X} (hp:xOf p=some p') {news:List AV} {vs:List Value} (hnews:RL μ j news vs) (hones:jN news=true) (hvl:vs.length=m*sz)
    (hnil:∀ A n cap,a.eval p = .slice A n cap→n≤cap→m=0→(execOp a.eval o).run P w = .ok (.value (.slice A n cap)) w)
    (hex:∀ (V:Value) (n:Nat) (xs:List Value),a.eval p=V→w.ownsRow 0 e sz V n xs→n+m≤100000000000000→(n+m)*by_≤100000000000000→∃ v' w',(execOp a.eval o).run P w = .ok (.value v') w'∧w'.ownsRow 0 e sz v' (n+m) (xs++vs)∧w.grownBy w' V.ownBlock∧(v'.ownBlock=V.ownBlock∨v'.ownBlock=some w.heap.size))
    {x:AV} (hx:jAn e sz by_ m news (p'.ev τ) σ=some (x,σ')):vO P μ B w0 j o a w x σ':=by
  intro K Q hk
  have h0:=jJ hp ht
  have hvlen:vs.length=news.length:=RL.len _ _ hnews
  unfold jAn at hx
  split at hx
  · rename_i hm
    obtain rfl:m=0:=by simpa using hm
    unfold qKs at hx
    split at hx
    · rename_i hs
      cases hx
      rw [hs] at h0
      exact qR (hnil none 0 0 h0 (Nat.le_refl _) rfl) (hk j _ w (J.le.refl _) rfl hr)
    · rename_i b o' n z hs
      cases hx
      rw [hs] at h0
      have key:∃ A cap,a.eval p = .slice A n cap∧n≤cap:=by
        rcases h0 with ⟨_,rfl,A,c,e0,_⟩ | ⟨g,cap,_,e0,hle,_⟩
        · exact ⟨_,_,e0,Nat.zero_le _⟩
        · exact ⟨_,_,e0,hle⟩
      obtain ⟨A,cap,e0,hle⟩:=key
      exact qR (hnil A n cap e0 hle rfl) (hk j _ w (J.le.refl _) (by rw [←e0]; exact h0) hr)
    · cases hx
  rename_i hm
  split at hx
  · rename_i hs
    rw [hs] at h0
    have e0:a.eval p = .slice none 0 0:=h0
    · have hm':m≠0:=by simpa using hm
      split at hx
      · rename_i hlim
        simp only [Bool.and_eq_true,Nat.ble_eq] at hlim
        rw [jU] at hx
        obtain ⟨b,hone,hn,rfl⟩:=nT hx
        obtain ⟨v',w',hrun,hown,hgrow,hat⟩:=hex _ 0 [] e0 (World.ownsRow_nil w 0 e sz) (by omega) (by rw [Nat.zero_add]; omega)
        rw [Nat.zero_add,List.nil_append] at hown
        rcases hown.2 with ⟨rfl,h0'⟩ | ⟨g',cap,cur,rfl,hBg,hh,hmc,hcap,hcur,htake⟩
        · omega
        · have hg':g'=w.heap.size:=by
            rcases hat with h | h<;>simpa [Value.ownBlock] using h
          subst hg'
          obtain ⟨rfl,hle,hrel⟩:=hr.add hn cur (0,0) w' w.heap.size w.heap.size hgrow.os hgrow.tape hgrow.output hgrow.size hr.fresh hr.fresh hh
            (fun k hk' _ _=>hgrow.block k hk' (by simp [Value.ownBlock])) (fun b' blk' g hb hg=>by have:=(hr.dom b' g hg).2.2; omega) (fun k o hs _=>by have:=(Array.getElem?_eq_some_iff.1 hs).1; exact ⟨by omega,by omega⟩) (fun _=>rfl) (fun o _=>by simp)
            (by show news.length≤cur.size; rw [←hvlen,hown.1,hcur]; exact Nat.mul_le_mul_right _ hmc) hone
            (fun k y hy'=>by obtain ⟨v,hv,hr'⟩:=RL.nth _ _ hnews k y hy'; exact ⟨v,lJ htake hv,hr'⟩)
          exact qR hrun (hk _ _ _ hle (.inr ⟨⟨w.heap.size,cur.size⟩,cap,by simp [J.upd],rfl,hmc,hcap,by simp [hcur]⟩) hrel)
      · cases hx
  · rename_i b n sz' hs
    rw [hs] at h0
    split at hx
    · rename_i hlim
      simp only [Bool.and_eq_true,Nat.ble_eq,Nat.beq_eq] at hlim
      obtain ⟨⟨rfl,hl1⟩,hl2⟩:=hlim
      unfold qGp at hx
      split at hx
      · rename_i blk hblk
        split at hx
        · rename_i hpl
          simp only [Bool.and_eq_true,Nat.beq_eq] at hpl
          obtain ⟨hplain,rfl⟩:=hpl
          split at hx
          · rename_i old hold
            rw [jU] at hx
            obtain ⟨b',hone,hn,rfl⟩:=nT hx
            obtain ⟨eold,holdlen⟩:=zH _ _ _ hold
            have hb0:=hr.lt hblk
            rcases h0 with ⟨eb,_⟩ | ⟨g,cap,hg,e0,hncap,hcap,htot⟩
            · omega
            · obtain ⟨g2,cs,fz,hg2,hBg,hh,hcs,hfz,hth,hlen,hall,hcells⟩:=hr.get b blk hblk
              rw [hg] at hg2
              cases hg2
              obtain rfl:=hfz hplain
              have hcsz:cs.size=cap*sz:=by rw [hcs,←htot]; omega
              have hnsz:n*sz≤cap*sz:=Nat.mul_le_mul_right _ hncap
              have hown0:w.ownsRow 0 blk.elem sz (.slice (some ⟨g.c,0,none⟩) n cap) n (cs.toList.take (n*sz)):=
                ⟨by simp; omega,.inr ⟨g.c,cap,cs,rfl,Nat.zero_le _,hh,hncap,hcap,hcsz,rfl⟩⟩
              obtain ⟨v',w',hrun,hown,hgrow,hat⟩:=hex _ n _ e0 hown0 (by omega) (by omega)
              rcases hown.2 with ⟨rfl,h0'⟩ | ⟨g',cap',cur,rfl,hBg',hh',hmc,hcap',hcur,htake⟩
              · rcases hat with h | h<;>simp [Value.ownBlock] at h
              · have hg':g'=g.c∨g'=w.heap.size:=by
                  rcases hat with h | h
                  · exact .inl (by simpa [Value.ownBlock] using h)
                  · exact .inr (by simpa [Value.ownBlock] using h)
                have hkill:=hr.kill (b:=b) (by have:=hr.lid; omega)
                have hrold:RL μ j old (cs.toList.take (n*sz)):=by
                  rw [eold]
                  refine RL.of_nth _ _ (by simp; omega) fun k y hy'=>?_
                  rw [List.getElem?_take] at hy' ⊢
                  split at hy'
                  · obtain ⟨v,hv,hr'⟩:=hcells k y hy'
                    exact ⟨v,by rw [if_pos (by assumption)]; simpa using hv,hr'⟩
                  · cases hy'
                obtain ⟨rfl,hle,hrel⟩:=hkill.add hn cur (0,0) w' g' g.c hgrow.os hgrow.tape hgrow.output hgrow.size (by rcases hg' with rfl | rfl; exact hBg; exact hr.fresh) hBg hh'
                  (fun k hk' _ hk2=>hgrow.block k hk' (by simp only [Value.ownBlock,ne_eq,Option.some.injEq]; exact hk2))
                  (fun b2 blk2 g2 hb2 hj2=>by
                    unfold Mem.kill at hb2
                    rw [Tr.get_set30 _ _ _ _ (by have:=hr.lid; omega)] at hb2
                    by_cases eb:b2=b
                    · rw [if_pos eb] at hb2; cases hb2
                    · rw [if_neg eb] at hb2
                      have hne:g2.c≠g.c:=fun ec=>eb (hr.inj _ _ _ _ _ _ hb2 hblk hj2 hg ec)
                      refine ⟨?_,hne⟩
                      rcases hg' with rfl | rfl
                      · exact hne
                      · have:=(hr.dom b2 g2 hj2).2.2; omega)
                  (fun k o hs hnc=>by
                    have hk1:k≠g.c:=by rintro rfl; rw [hh] at hs; cases hs; exact hnc _ _ _ rfl
                    have hk2:=(Array.getElem?_eq_some_iff.1 hs).1
                    refine ⟨?_,hk1⟩
                    rcases hg' with rfl | rfl
                    · exact hk1
                    · omega) (fun _=>rfl) (fun o _=>by simp)
                  (by show (old++news).length≤cur.size
                      rw [hcur,List.length_append,←hvlen,hvl]
                      have:old.length=n*sz:=by rw [eold]; simp; omega
                      rw [this,←Nat.add_mul]
                      exact Nat.mul_le_mul_right _ hmc) hone
                  (fun k y hy'=>by obtain ⟨v,hv,hr'⟩:=RL.nth _ _ (hrold.append hnews) k y hy'; exact ⟨v,lJ htake hv,hr'⟩)
                exact qR hrun (hk _ _ _ hle (.inr ⟨⟨g',cur.size⟩,cap',by simp [J.upd,Mem.kill],rfl,hmc,hcap',by simp [hcur]⟩) hrel)
          · cases hx
        · cases hx
      · cases hx
    · cases hx
  · cases hx
theorem qCh (hμ:yF μ) (hr:Rel μ B w0 j σ w) (ht:RT μ j τ a) {o:Oper} {p y:Operand} {t:TypeId} (ho:o.op = .call ⟨.builtin .append, #[p,y], #[t,t]⟩) {e:Nat} (hu:P.underlying t=some (.slice e)) {i:TypeInfo} (hi:P.info? e=some i)
  {z:List AV} (hz:bA P e=some z) (hzs:zD i.size z=true) (hsz:0<i.size) {p' y':X} (hp:xOf p=some p') (hy:xOf y=some y') {x:AV} (hx:eAp e i.size i.bytes (p'.ev τ) (aH σ i.size (y'.ev τ)) σ=some (x,σ')):vO P μ B w0 j o a w x σ':=by
 have h1:=jJ hy ht
 obtain ⟨i',zv,hi',hzv,hzr,_⟩:=aO (μ:=μ) (j:=j) hz
 rw [hi] at hi'
 cases hi'
 have hzsz:zv.cells.size=i.size:=by
  have:=RL.len _ _ hzr
  rw [yB _ _ hzs] at this
  simpa using this
 have hexec:∀ (V:Value) (w':World),(Builtin.append_ #[t,t] o.type #[a.eval p,a.eval y]).run P w = .ok V w'→(execOp a.eval o).run P w = .ok (.value V) w':=by
  intro V w' h
  simp [execOp,ho,resolve,invoke,builtin,h]
 unfold eAp at hx
 split at hx
 ·cases hx
 ·rename_i m news hsrc
  obtain ⟨A,c,vs,e1,hreads,hnews,hones⟩:=qEt hr hsrc h1
  refine jPy hr ht hp hnews hones hreads.1 (fun A' n' cap' e0 hle hm=>hexec (.slice A' n' cap') w ?_) (fun V n xs e0 hown hl1 hl2=>?_) hx
  ·subst hm
   have hf:(Builtin.firstCells i.size 0 (.slice A 0 c)).run P w = .ok #[] w:=by
    cases A with
    | none=>simp [Builtin.firstCells]
    | some ad=>simp [Builtin.firstCells,loadCells,loadCellsFrom]
   cases A'<;>simp [e0,e1,Builtin.append_,run_underlying hu,sizeOf,typeInfo,hi,Builtin.lenOf,hf,hle,storeCells]
  ·obtain ⟨v',w',hrun,h2,h3,h4⟩:=jCq (P:=P) w 0 t o.type e i zv i.size i.bytes hu hi hzv rfl rfl hzsz hsz V n xs hown w.heap.size A m c vs hreads (RL.ones hμ hones hnews)
    (by unfold maxLen; omega) (by omega) (Nat.zero_le _)
   exact ⟨v',w',hexec _ _ (by rw [e0,e1]; exact hrun),h2,h3,h4⟩
theorem jCr (base:Nat) (t u ty e:TypeId) (i:TypeInfo) (ht:P.underlying t=some (.slice e)) (hu:P.underlying u=some .string) (hi:P.info? e=some i) (hz:i.zero=some (.int .u8 0))
  (hsize:i.size=1) (hby:i.bytes=1) (v:Value) (n:Nat) (xs:List Value) (hown:w.ownsRow base e 1 v n xs) (s:ByteArray) (h63:n+s.size≤maxLen) (hbytes:n+s.size≤140737488355328) (hbase:base≤w.heap.size) :
  ∃ v' w',(Builtin.append_ #[t,u] ty #[v,.string s]).run P w = .ok v' w'∧w'.ownsRow base e 1 v' (n+s.size) (xs++Lib.strCells s)∧w.grownBy w' v.ownBlock∧(v'.ownBlock=v.ownBlock∨v'.ownBlock=some w.heap.size):=by
 obtain ⟨v',w',hrun,h2,h3,h4⟩:=Lib.run_append_own_string (P:=P) w base t u ty e i ht hu hi hz hsize hby v n xs hown s h63 hbytes hbase
 refine ⟨v',w',hrun,h2,h3,?_⟩
 have hsmall:n+s.size≤9223372036854775807:=by simp only [maxLen] at h63; omega
 have hxl:xs.length=n:=by simpa using hown.1
 rcases hown.2 with ⟨rfl,rfl⟩ | ⟨g,cap,cur,rfl,hbg,hg,hnc,hcm,hcs,htake⟩
 ·by_cases hm:s.size=0
  ·left; rw [h4.2 ⟨rfl,hm⟩]
  ·have hr:=run_append_nil_string (P:=P) w t u ty e i (.int .u8 0) ht hu hi hz s (by omega) (by omega) (by rw [hby]; omega)
   rw [hr] at hrun
   cases hrun
   exact .inr rfl
 ·by_cases hroom:n+s.size≤cap
  ·have hcs':cur.size=cap:=by simpa using hcs
   have hr:=Lib.run_append_room_string (P:=P) w t u ty e i ht hu hi hsize g n cap cur hg s hroom (by omega)
   rw [hr] at hrun
   cases hrun
   exact .inl rfl
  ·have holds:∀ (j:Nat) (u:Value),xs[j]?=some u→w.cell? ((⟨g,0,none⟩:Addr).add j)=some u:=hown.cells (g:=g) rfl
   have hr:=Lib.run_append_grow_string (P:=P) w t u ty e i (.int .u8 0) ht hu hi hz ⟨g,0,none⟩ n cap xs (by rw [hsize]; simpa using hxl) holds s (by omega) (by omega) (by rw [hby]; exact growslice_fits (by omega) (by omega))
   rw [hr] at hrun
   cases hrun
   exact .inr rfl
theorem jTm:∀ l:List Nat,jN (u8s l)=true
 | []=>rfl
 | _::r=>by simp [u8s,jN,AV.one,jTm r]
theorem qCi (hr:Rel μ B w0 j σ w) (ht:RT μ j τ a) {o:Oper} {p y:Operand} {t t':TypeId} (ho:o.op = .call ⟨.builtin .append, #[p,y], #[t,t']⟩) {e:Nat} (hu:P.underlying t=some (.slice e)) (hu':P.underlying t'=some .string)
  (hb:jWy P e=true) {p' y':X} (hp:xOf p=some p') (hy:xOf y=some y') {x:AV} (hx:eAs e (p'.ev τ) (y'.ev τ) σ=some (x,σ')):vO P μ B w0 j o a w x σ':=by
 have h1:=jJ hy ht
 unfold jWy at hb
 split at hb<;>first | (cases hb; done) | skip
 rename_i i hi
 simp only [Bool.and_eq_true,Nat.beq_eq] at hb
 obtain ⟨⟨hs1,hb1⟩,hz⟩:=hb
 have hz':i.zero=some (.int .u8 0):=by
  split at hz
  ·assumption
  ·cases hz
 have hexec:∀ (V:Value) (w':World),(Builtin.append_ #[t,t'] o.type #[a.eval p,a.eval y]).run P w = .ok V w'→(execOp a.eval o).run P w = .ok (.value V) w':=by
  intro V w' h
  simp [execOp,ho,resolve,invoke,builtin,h]
 have core:∀ (s:ByteArray) (news:List AV),a.eval y = .string s→RL μ j news (Lib.strCells s)→jN news=true→jAn e 1 1 s.size news (p'.ev τ) σ=some (x,σ')→vO P μ B w0 j o a w x σ':=by
  intro s news e1 hnews hone hx
  refine jPy hr ht hp hnews hone (by rw [Lib.strCells_length,Nat.mul_one]) (fun A' n' cap' e0 hle hm=>hexec (.slice A' n' cap') w ?_) (fun V n xs e0 hown hl1 hl2=>?_) hx
  ·have hf:=Lib.run_firstCells_string (P:=P) w 1 s
   rw [hm] at hf
   have hn:Lib.strCells s=[]:=List.eq_nil_of_length_eq_zero (by rw [Lib.strCells_length,hm])
   rw [hn] at hf
   cases A'<;>simp [e0,e1,Builtin.append_,run_underlying hu,run_underlying hu',sizeOf,typeInfo,hi,hs1,Builtin.lenOf,hm,hf,hle,storeCells]
  ·obtain ⟨v',w',hrun,h2,h3,h4⟩:=jCr (P:=P) (w:=w) 0 t t' o.type e i hu hu' hi hz' hs1 hb1 V n xs hown s (by unfold maxLen; omega) (by omega) (Nat.zero_le _)
   exact ⟨v',w',hexec _ _ (by rw [e0,e1]; exact hrun),h2,h3,h4⟩
 unfold eAs at hx
 split at hx
 ·rename_i m v hl
  rw [hl] at h1
  obtain ⟨s,e1,e2,e3⟩:=h1
  have hdec:tD m v=s.data.toList.map UInt8.toNat:=by
   rw [←e2,←e3,show s.size=s.data.toList.length from by simp,uY]
  subst e2
  exact core s _ e1 (by rw [hdec]; exact jDk _) (jTm _) hx
 ·rename_i l hl
  rw [hl] at h1
  obtain ⟨s,e1,e2⟩:=h1
  rw [gI e2] at hx
  exact core s _ e1 e2 (qFu e2) hx
 ·cases hx
theorem qCn (hr:Rel μ B w0 j σ w) (ht:RT μ j τ a) {o:Oper} {t:TypeId} {p y:Operand} (ho:o.op = .makeSlice t p y) {e:Nat} (hu:P.underlying t=some (.slice e)) {i:TypeInfo} (hi:P.info? e=some i) {z:List AV} (hz:bA P e=some z) (hi0:0<i.size) (hzs:zD i.size z=true)
  {p' y':X} (hp:xOf p=some p') (hy:xOf y=some y') {x:AV} (hx:eMk e i.size i.bytes z (p'.ev τ) (y'.ev τ) σ=some (x,σ')):vO P μ B w0 j o a w x σ':=by
 have h1:=jJ hp ht
 have h2:=jJ hy ht
 obtain ⟨i',zv,hi',hzv,hzr,_⟩:=aO (μ:=μ) (j:=j) hz
 rw [hi] at hi'
 cases hi'
 have hzn:=yB _ _ hzs
 unfold eMk at hx
 split at hx
 ·rename_i k1 l k2 m e1 e2
  rw [e1] at h1
  rw [e2] at h2
  have h1':a.eval p = .int k1 (l:Int):=h1
  have h2':a.eval y = .int k2 (m:Int):=h2
  split at hx
  ·rename_i hlim
   simp only [Bool.and_eq_true,Nat.ble_eq] at hlim
   obtain ⟨⟨⟨hl1,hl2⟩,hl3⟩,hl4⟩:=hlim
   obtain ⟨b,hone,hn,rfl⟩:=nT hx
   have hb':(i.bytes:Int)*(m:Int)≤281474976710656:=by
    have h:((i.bytes*m:Nat):Int)≤281474976710656:=by
     have:=hl2
     rw [Nat.mul_comm] at this
     omega
    rwa [Int.natCast_mul] at h
   have hrun:=run_make (P:=P) w t e i zv hu hi hzv k1 k2 (l:Int) (m:Int) (by omega) (by omega) hb' (by omega)
   simp only [Int.toNat_natCast] at hrun
   have hrep:=jSs hzr (by omega) m
   rw [hzn] at hrep
   have hcells:RL μ j (sJ z m) (madeCells zv.cells (m*i.size)).toList:=hrep
   have hlm:l*z.length≤m*z.length:=Nat.mul_le_mul_right _ hl3
   intro K Q hk
   obtain ⟨rfl,hle,hrel⟩:=hr.new hn (madeCells zv.cells (m*i.size)) (0,0) (w.alloc (.cells (madeCells zv.cells (m*i.size)) e)) rfl rfl rfl rfl (fun _=>rfl) (fun o _=>by simp)
    (by show (sJ z l).length≤_; rw [gT,size_madeCells,←hzn]; exact hlm) hone
    (fun q x hx=>by
     have hq:q<l*z.length:=by
      have:=(List.getElem?_eq_some_iff.1 hx).1
      rwa [gT] at this
     have hx':(sJ z m)[q]?=some x:=by
      rw [aA z (by omega) m q (by omega),←aA z (by omega) l q hq]; exact hx
     obtain ⟨v,hv,hrv⟩:=RL.nth _ _ hcells q x hx'
     exact ⟨v,by simpa using hv,hrv⟩)
   refine qR (v:=.slice (some ⟨w.heap.size,0,none⟩) l m) ?_ (hk _ _ _ hle (.inr ⟨⟨w.heap.size,(madeCells zv.cells (m*i.size)).size⟩,m,by simp [J.upd],rfl,hl3,by unfold maxLen; omega,by simp [size_madeCells]⟩) hrel)
   simp [execOp,ho,h1',h2',hrun]
  ·cases hx
 ·cases hx
theorem Rel.turn (h:Rel μ B w0 j σ w) {b:Nat} {blk:zE} (hb:σ.t.get b=some blk) {g:G} (hj:j b=some g) {w':World} (ho:w'.os=w.os) (ht:w'.tape=w.tape) (hu:w'.output=w.output) (hsz:w'.heap.size=w.heap.size)
  (hk:∀ k,k≠g.c→w'.heap[k]?=w.heap[k]?):Rel μ B w0 j (σ.kill b) w':=by
 have hb0:=h.lt hb
 have hlid:=h.lid
 have hkill:=h.kill (b:=b) (by omega)
 obtain ⟨g2,cs,fz,hg2,hBg,hhc,_⟩:=h.get b blk hb
 rw [hj] at hg2
 cases hg2
 refine ⟨h.below.trans ⟨ho,ht,hu,by omega,fun k hk'=>hk k (fun e=>hBg (e ▸ hk'))⟩,by rw [hsz]; exact h.base,hkill.pos,hkill.lid,?_,hkill.inj,fun b2 g2 h2=>by have:=hkill.dom b2 g2 h2; omega,hkill.iters (J.le.refl _) fun k o hs hnc=>by rw [hk k (by rintro rfl; rw [hhc] at hs; cases hs; exact hnc _ _ _ rfl)]; exact hs,hkill.itin,hkill.held⟩
 intro b2 blk2 h2
 obtain ⟨g2,cs2,fz2,hg2,hB2,hh2,r⟩:=hkill.get b2 blk2 h2
 have hne:g2.c≠g.c:=by
  intro ec
  unfold Mem.kill at h2
  rw [Tr.get_set30 _ _ _ _ (by omega)] at h2
  by_cases eb:b2=b
  ·rw [if_pos eb] at h2; cases h2
  ·rw [if_neg eb] at h2
   exact eb (h.inj _ _ _ _ _ _ h2 hb hg2 hj ec)
 exact ⟨g2,cs2,fz2,hg2,hB2,by rw [hk _ hne]; exact hh2,r⟩
theorem qCq (hr : Rel μ B w0 j σ w) (ht : RT μ j τ a) {o : Oper} {f : FuncId} {args : Array Operand} {ats : Array TypeId} (ho : o.op = .call ⟨.value (.func f), args, ats⟩) (hf : lG P "internal/bytealg.MakeNoZero" f = true) {e : Nat} (hs : jCn P f = some e)
  {y':X} (hy:aN args.toList=some [y']) {x:AV} (hx:eMz e (asI (y'.ev τ)) σ=some (x,σ')):vO P μ B w0 j o a w x σ':=by
 intro K Q hk
 obtain ⟨v,t,e1,h1,h2⟩:=wN hy ht
 cases h2
 have hargs:args.map a.eval = #[v]:=by rw [←Array.toList_inj]; simpa using e1
 unfold eMz at hx
 split at hx<;>first | (cases hx; done) | skip
 rename_i n hn
 have ev:v = .int .i64 n:=by
  unfold asI at hn
  split at hn<;>cases hn
  rename_i h
  rw [h] at h1
  exact h1
 subst ev
 split at hx<;>first | (cases hx; done) | skip
 rename_i hle
 have hle':n≤1000000000:=by simpa using hle
 obtain ⟨b,hone,hnw,rfl⟩:=nT hx
 unfold jCn at hs
 split at hs<;>first | (cases hs; done) | skip
 rename_i fn hfn
 split at hs<;>first | (cases hs; done) | skip
 rename_i rt hrt
 split at hs<;>first | (cases hs; done) | skip
 rename_i e' hu
 split at hs<;>cases hs
 rename_i hs1
 have hrt':fn.resultTypes = #[rt]:=by rw [←Array.toList_inj]; exact hrt
 obtain ⟨cs,hrun,hncs,hcap⟩:=Lib.run_makeNoZero (P:=P) w fn.params rt e hu n (by omega)
 have hcapm:cs.size≤maxLen:=hcap (by unfold maxLen; omega)
 have hcall:(callFunc f #[Value.int .i64 n]).run P w = .ok (.value (.slice (some ⟨w.heap.size,0,none⟩) n cs.size)) (w.drew.drew.alloc (.cells cs e)):=by
  unfold lG at hf
  rw [hfn] at hf
  simp only [Bool.and_eq_true,beq_iff_eq,Option.isNone_iff_eq_none] at hf
  have hfi:Extern.find fn=some (Extern.BytealgMakeNoZero.makeNoZero fn.params fn.resultTypes):=by
   unfold Extern.find
   rw [hf.1.1]
   rfl
  rw [run_callFunc_extern hfn (by rw [hf.1.1]; rfl) (by rw [hf.1.2]; rfl) hf.2 hfi,hrt',hrun]
  rfl
 obtain ⟨rfl,hle2,hrel⟩:=hr.drew.drew.new hnw cs (0,0) (w.drew.drew.alloc (.cells cs e)) rfl rfl rfl rfl (fun _=>rfl) (fun o _=>by simp) (by simp) rfl (fun i y hy=>by simp at hy)
 refine qR (v:=.slice (some ⟨w.heap.size,0,none⟩) n cs.size) ?_ (hk _ _ _ hle2 (.inr ⟨⟨w.heap.size,cs.size⟩,cs.size,by simp [J.upd],rfl,hncs,hcapm,by simp⟩) hrel)
 simp [execOp,ho,resolve,Act.eval,Deferred.ofValue,invoke,hargs,hcall]
theorem Rel.addIt (hr:Rel μ B w0 j σ w) (hlt':0≤σ.nx) {i:It} {o:Obj} (hi:ItR μ j i o) {w':World} (hw:w'.heap=w.heap.push o) (ho:w'.os=w.os) (htp:w'.tape=w.tape) (hu:w'.output=w.output) :
  j.le (j.upd σ.nx ⟨w.heap.size,0⟩)∧Rel μ B w0 (j.upd σ.nx ⟨w.heap.size,0⟩) ⟨σ.t,σ.nx+1,Tr.put σ.it σ.nx (some i)⟩ w':=by
 have hle:=hr.le_upd ⟨w.heap.size,0⟩
 have hpos:=hr.pos
 have hold:∀ k,k<w.heap.size→w'.heap[k]?=w.heap[k]?:=by
  intro k hk
  rw [hw,Array.getElem?_push,if_neg (by omega)]
 have hsz:w'.heap.size=w.heap.size+1:=by
  rw [hw]; simp
 refine ⟨hle,⟨?_,?_,?_,?_,?_,?_,?_,?_,?_,hr.held⟩⟩
 ·exact hr.below.trans ⟨ho,htp,hu,by omega,fun k hk'=>hold k (by have:=hr.base k hk'; omega)⟩
 ·intro k hk'; have:=hr.base k hk'; omega
 ·show 0<σ.nx+1; omega
 ·exact Nat.zero_le _
 ·intro b blk hb'
  obtain ⟨g,cs,fz,hj,hB,hh,h2,h3,h4,h5,h6,h7⟩:=hr.get b blk hb'
  refine ⟨g,cs,fz,hle _ _ hj,hB,by rw [hold _ (hr.dom _ _ hj).2.2]; exact hh,h2,h3,h4,h5,h6,fun i y hy'=>?_⟩
  obtain ⟨v,hv,hr'⟩:=h7 i y hy'
  exact ⟨v,hv,hr'.mono hle⟩
 ·intro b b' blk blk' g g' hb1 hb2 hj1 hj2 hc
  have k1:=hr.lt hb1
  have k2:=hr.lt hb2
  unfold J.upd at hj1 hj2
  rw [if_neg (by omega)] at hj1 hj2
  exact hr.inj _ _ _ _ _ _ hb1 hb2 hj1 hj2 hc
 ·intro b g hj1
  show 0<b∧b<σ.nx+1∧_
  unfold J.upd at hj1
  by_cases e:b=σ.nx
  ·rw [if_pos e] at hj1
   cases hj1
   exact ⟨by omega,by omega,by rw [hsz]; show w.heap.size<_; omega⟩
  ·rw [if_neg e] at hj1
   have:=hr.dom b g hj1
   exact ⟨this.1,by omega,by omega⟩
 ·intro b i' hb'
  rw [Tr.get_set30 _ _ _ _ (by omega)] at hb'
  by_cases e:b=σ.nx
  ·rw [if_pos e] at hb'
   cases hb'
   refine ⟨⟨w.heap.size,0⟩,o,by simp [J.upd,e],hr.fresh,?_,hi.mono hle⟩
   rw [hw]; simp
  ·rw [if_neg e] at hb'
   obtain ⟨g,o',k1,k2,k3,k4⟩:=hr.iter b i' hb'
   exact ⟨g,o',hle _ _ k1,k2,by rw [hold _ (hr.dom _ _ k1).2.2]; exact k3,k4.mono hle⟩
 ·have hid:∀ b i2 g,(Tr.put σ.it σ.nx (some i)).get b=some i2→(j.upd σ.nx ⟨w.heap.size,0⟩) b=some g→(b=σ.nx∧g.c=w.heap.size)∨(σ.it.get b=some i2∧j b=some g∧g.c<w.heap.size):=by
   intro b i2 g hb' hg'
   rw [Tr.get_set30 _ _ _ _ (by omega)] at hb'
   unfold J.upd at hg'
   by_cases e:b=σ.nx
   ·rw [if_pos e] at hg'; cases hg'; exact .inl ⟨e,rfl⟩
   ·rw [if_neg e] at hb' hg'; exact .inr ⟨hb',hg',(hr.dom _ _ hg').2.2⟩
  intro b b' i i' g g' k1 k2 k3 k4 k5
  rcases hid b i g k1 k3 with ⟨e1,e2⟩ | ⟨e1,e2,e3⟩<;>rcases hid b' i' g' k2 k4 with ⟨f1,f2⟩ | ⟨f1,f2,f3⟩
  ·rw [e1,f1]
  ·omega
  ·omega
  ·exact hr.itin _ _ _ _ _ _ e1 f1 e2 f2 k5
theorem Rel.setIt (hr:Rel μ B w0 j σ w) {b:Nat} {i0:It} (hit:σ.it.get b=some i0) {g:G} (hg:j b=some g) {i:It} {o o0:Obj} (hh:w.heap[g.c]?=some o0) (hnc:sT o0) (hi:ItR μ j i o) :
  Rel μ B w0 j ⟨σ.t,σ.nx,Tr.put σ.it b (some i)⟩ { w with heap:=w.heap.setIfInBounds g.c o }:=by
 have hdom:=hr.dom b g hg
 have hlid:=hr.lid
 have hBg:¬ B g.c:=by
  obtain ⟨g2,_,h1,h2,_⟩:=hr.iter b i0 hit
  rw [hg] at h1; cases h1; exact h2
 have hobj:({ w with heap:=w.heap.setIfInBounds g.c o }:World).heap[g.c]?=some o:=by
  show (w.heap.setIfInBounds g.c _)[g.c]?=_
  rw [Array.getElem?_setIfInBounds_self_of_lt hdom.2.2]
 have hold:∀ k,k≠g.c→({ w with heap:=w.heap.setIfInBounds g.c o }:World).heap[k]?=w.heap[k]?:=fun k hk'=>by
  show (w.heap.setIfInBounds g.c _)[k]?=_
  rw [Array.getElem?_setIfInBounds_ne (Ne.symm hk')]
 have hsz:({ w with heap:=w.heap.setIfInBounds g.c o }:World).heap.size=w.heap.size:=by simp
 refine ⟨?_,?_,hr.pos,hr.lid,?_,hr.inj,?_,?_,?_,hr.held⟩
 ·exact hr.below.trans ⟨rfl,rfl,rfl,by omega,fun k hk'=>hold k (fun e=>hBg (e ▸ hk'))⟩
 ·rw [hsz]; exact hr.base
 ·intro b2 blk2 h2
  obtain ⟨g2,cs2,fz2,hg2,hB2,hh2,r⟩:=hr.get b2 blk2 h2
  exact ⟨g2,cs2,fz2,hg2,hB2,by rw [hold _ (by intro e; rw [e,hh] at hh2; cases hh2; exact hnc _ _ _ rfl)]; exact hh2,r⟩
 ·intro b2 g2 h2
  have:=hr.dom b2 g2 h2
  exact ⟨this.1,this.2.1,by omega⟩
 ·intro b2 i2 h2
  rw [Tr.get_set30 _ _ _ _ (by omega)] at h2
  by_cases e:b2=b
  ·rw [if_pos e] at h2
   cases h2
   subst e
   exact ⟨g,o,hg,hBg,hobj,hi⟩
  ·rw [if_neg e] at h2
   obtain ⟨g2,o2,k1,k2,k3,k4⟩:=hr.iter b2 i2 h2
   exact ⟨g2,o2,k1,k2,by rw [hold _ (fun ec=>e (hr.itin _ _ _ _ _ _ h2 hit k1 hg ec))]; exact k3,k4⟩
 ·have sub:∀ b2 i2,(Tr.put σ.it b (some i)).get b2=some i2→∃ i3,σ.it.get b2=some i3:=by
   intro b2 i2 h2
   rw [Tr.get_set30 _ _ _ _ (by omega)] at h2
   by_cases e:b2=b
   ·subst e; exact ⟨_,hit⟩
   ·rw [if_neg e] at h2; exact ⟨_,h2⟩
  intro b1 b2 i1 i2 g1 g2 k1 k2 k3 k4 k5
  obtain ⟨_,k1'⟩:=sub _ _ k1
  obtain ⟨_,k2'⟩:=sub _ _ k2
  exact hr.itin _ _ _ _ _ _ k1' k2' k3 k4 k5
theorem qCs (hr:Rel μ B w0 j σ w) (ht:RT μ j τ a) {o:Oper} {t:TypeId} {y:Operand} (ho:o.op = .range t y) (hu:P.underlying t=some .string) {y':X} (hy:xOf y=some y') {x:AV} (hx:eRg (y'.ev τ) σ=some (x,σ')):vO P μ B w0 j o a w x σ':=by
 intro K Q hk
 have h1:=jJ hy ht
 unfold eRg at hx
 split at hx<;>first | (cases hx; done) | skip
 rotate_left
 ·rename_i l hb
  rw [hb] at h1
  obtain ⟨s,e1,e2⟩:=h1
  split at hx<;>cases hx
  rename_i hlt
  have hlt':0≤σ.nx:=Nat.zero_le _
  have hrun:(execOp a.eval o).run P w = .ok (.value (.pointer (some ⟨w.heap.size,0,none⟩))) (w.iter s 0):=by
   simp only [execOp,ho,e1,Sem.run_bind,run_range_string w t s hu,Result.andThen_ok]
   rfl
  obtain ⟨hle,hrel⟩:=hr.addIt hlt' (i:=.im l 0) (o:=.stringIter s 0) ⟨s,rfl,e2⟩ (w':=w.iter s 0) rfl rfl rfl rfl
  exact qR hrun (hk _ _ _ hle ⟨⟨w.heap.size,0⟩,by simp [J.upd],rfl⟩ hrel)
 rename_i n v hb
 rw [hb] at h1
 obtain ⟨s,e1,e2,e3⟩:=h1
 split at hx<;>cases hx
 rename_i hlt
 have hlt':0≤σ.nx:=Nat.zero_le _
 have hrun:(execOp a.eval o).run P w = .ok (.value (.pointer (some ⟨w.heap.size,0,none⟩))) (w.iter s 0):=by
  simp only [execOp,ho,e1,Sem.run_bind,run_range_string w t s hu,Result.andThen_ok]
  rfl
 obtain ⟨hle,hrel⟩:=hr.addIt hlt' (i:=.it n v 0) (o:=.stringIter s 0) ⟨s,rfl,e2,e3⟩ (w':=w.iter s 0) rfl rfl rfl rfl
 exact qR hrun (hk _ _ _ hle ⟨⟨w.heap.size,0⟩,by simp [J.upd],rfl⟩ hrel)
theorem qCr (hr:Rel μ B w0 j σ w) (ht:RT μ j τ a) {o:Oper} {y:Operand} (ho:o.op = .next y true) {y':X} (hy:xOf y=some y') {x:AV} (hx:eNx (y'.ev τ) σ=some (x,σ')):vO P μ B w0 j o a w x σ':=by
 intro K Q hk
 have h1:=jJ hy ht
 unfold eNx at hx
 split at hx<;>first | (cases hx; done) | skip
 rename_i b hb
 rw [hb] at h1
 obtain ⟨g,hg,e1⟩:=h1
 unfold qKv at hx
 split at hx<;>first | (cases hx; done) | skip
 ·rename_i l p hit
  obtain ⟨g2,o2,hg2,hBg,hh,s,rfl,hs⟩:=hr.iter b (.im l p) hit
  rw [hg] at hg2
  cases hg2
  unfold qKw at hx
  rw [wL] at hx
  split at hx
  ·rename_i hnone
   cases hx
   have hlen:=RL.len _ _ hs
   simp only [List.length_map,Array.length_toList] at hlen
   have hlt':¬ p<s.size:=by
    have:=List.getElem?_eq_none_iff.1 hnone
    have:s.data.size=s.size:=rfl
    omega
   exact qR (by simp [execOp,ho,e1,Instr.next,getObj,Sem.run,hh,hlt']) (hk j (.tuple #[.bool false]) _ (J.le.refl _) ⟨_,rfl,_,_,rfl,rfl,rfl⟩ hr)
  ·rename_i x0 hx0
   obtain ⟨v0,hv0,hr0⟩:=RL.nth _ _ hs _ _ hx0
   rw [List.getElem?_map,Option.map_eq_some_iff] at hv0
   obtain ⟨b0,hb0,rfl⟩:=hv0
   have hlt':p<s.size:=by
    have:=(List.getElem?_eq_some_iff.1 hb0).1
    simpa using this
   have hbl:s.data.toList[p]?=some s[p]:=by
    rw [List.getElem?_eq_getElem (by simpa using hlt')]; rfl
   rw [hbl] at hb0
   cases hb0
   split at hx<;>first | (cases hx; done) | skip
   rename_i r hrune
   rw [jU] at hx
   cases hx
   have hre:s[p].toNat<128∧RV μ j r (.int .i32 s[p].toNat):=by
    unfold qFz at hrune
    split at hrune
    ·split at hrune<;>cases hrune
     rename_i c hc
     have e5:(s[p].toNat:Int)=Int.ofNat c:=by
      have:Value.int .u8 (s[p].toNat:Int)=Value.int .u8 (Int.ofNat c):=hr0
      simpa using this
     have e6:s[p].toNat=c:=Int.ofNat.inj e5
     rw [e6]
     exact ⟨by simpa [Nat.blt_eq] using hc,rfl⟩
    ·split at hrune<;>cases hrune
     rename_i k lo hi hc
     obtain ⟨n,g0,g1,g3,g4⟩:=hr0
     cases g1
     rw [Nat.blt_eq] at hc
     exact ⟨by omega,_,g0,rfl,g3,g4⟩
    ·cases hrune
   have hrun:(execOp a.eval o).run P w = .ok (.value (.tuple #[.bool true,.int .i64 p,.int .i32 s[p].toNat])) { w with heap:=w.heap.setIfInBounds g.c (.stringIter s (p+1)) }:=by
    simp [execOp,ho,e1,Instr.next,getObj,setObj,Sem.run,hh,hlt',decode_ascii s p hlt' hre.1,goInt]
   exact qR hrun (hk j _ _ (J.le.refl _) ⟨_,rfl,_,_,rfl,rfl,_,_,rfl,rfl,_,_,rfl,hre.2,rfl⟩ (hr.setIt hit hg hh (by intro cs e fz h; cases h) (i:=.im l (Nat.add p 1)) ⟨s,rfl,hs⟩))
 rename_i n v p hit
 obtain ⟨g2,o2,hg2,hBg,hh,s,rfl,hs1,hs2⟩:=hr.iter b (.it n v p) hit
 rw [hg] at hg2
 cases hg2
 have hdom:=hr.dom b g hg
 have hlid:=hr.lid
 split at hx
 ·rename_i hlt
  have hlt':p<s.size:=by rw [hs1]; simpa using hlt
  rw [jU] at hx
  unfold qKu at hx
  split at hx<;>first | (cases hx; done) | skip
  rename_i hc
  rw [jU] at hx
  cases hx
  have hbl:s.data.toList[p]?=some s[p]:=by
   rw [List.getElem?_eq_getElem (by simpa using hlt')]; rfl
  have hcv:Nat.mod (Nat.div v (Nat.pow 256 p)) 256=s[p].toNat:=by
   rw [←hs2]; exact jAo hbl
  rw [hcv] at hc hk
  have hasc:s[p].toNat<128:=by simpa using hc
  have hrun:(execOp a.eval o).run P w = .ok (.value (.tuple #[.bool true,.int .i64 p,.int .i32 s[p].toNat])) { w with heap:=w.heap.setIfInBounds g.c (.stringIter s (p+1)) }:=by
   simp [execOp,ho,e1,Instr.next,getObj,setObj,Sem.run,hh,hlt',decode_ascii s p hlt' hasc,goInt]
  exact qR hrun (hk j _ _ (J.le.refl _) ⟨_,rfl,_,_,rfl,rfl,_,_,rfl,rfl,_,_,rfl,rfl,rfl⟩ (hr.setIt hit hg hh (by intro cs e fz h; cases h) (i:=.it n v (Nat.add p 1)) ⟨s,rfl,hs1,hs2⟩))
 ·rename_i hlt
  have hlt':¬ p<s.size:=by rw [hs1]; simpa using hlt
  cases hx
  exact qR (by simp [execOp,ho,e1,Instr.next,getObj,Sem.run,hh,hlt']) (hk j (.tuple #[.bool false]) _ (J.le.refl _) ⟨_,rfl,_,_,rfl,rfl,rfl⟩ hr)
theorem qCo (hr:Rel μ B w0 j σ w) {o:Oper} {t:TypeId} {r:Option Operand} (ho:o.op = .makeMap t r) (hh:jOk r=true) {kt e:TypeId} (hu:P.underlying t=some (.map kt e)) {x:AV} (hx:eMm σ=some (x,σ')):vO P μ B w0 j o a w x σ':=by
 intro K Q hk
 unfold eMm at hx
 split at hx<;>cases hx
 rename_i hlt
 have hlt':0≤σ.nx:=Nat.zero_le _
 obtain ⟨hle,hrel⟩:=hr.addIt hlt' (i:=.mp []) (o:=.map #[] 0) ⟨#[],0,rfl,rfl⟩ (w':=w.alloc (.map #[] 0)) rfl rfl rfl rfl
 refine qR (v:=.map (some w.heap.size)) ?_ (hk _ _ _ hle (.inr ⟨⟨w.heap.size,0⟩,by simp [J.upd],rfl⟩) hrel)
 unfold jOk at hh
 split at hh
 ·simp [execOp,ho,Instr.makeMap,newObj]
  rfl
 ·simp [execOp,ho,Instr.makeMap,newObj,Act.eval,run_underlying hu,asInt,asIntOf]
  rfl
 ·cases hh
theorem qCp (hμ:yF μ) (hr:Rel μ B w0 j σ w) (ht:RT μ j τ a) {o:Oper} {t:TypeId} {m k y:Operand} (ho:o.op = .mapUpdate t m k y) {kt e:TypeId} (hu:P.underlying t=some (.map kt e)) (hk':P.underlying kt=some .string) {m' k' y':X} (hm:xOf m=some m') (hkk:xOf k=some k') (hy:xOf y=some y') {x:AV}
  (hx:eMu (m'.ev τ) (k'.ev τ) (y'.ev τ) σ=some (x,σ')):vO P μ B w0 j o a w x σ':=by
 intro K Q hk
 have h1:=jJ hm ht
 have h2:=jJ hkk ht
 have h3:=jJ hy ht
 unfold eMu at hx
 split at hx<;>first | (cases hx; done) | skip
 rename_i b n v hb hs
 rw [hb] at h1
 rw [hs] at h2
 obtain ⟨s,e2,rfl,rfl⟩:=h2
 unfold qKt at hx
 split at hx<;>first | (cases hx; done) | skip
 rename_i l hit
 have hb0:b≠0:=by
  rintro rfl
  obtain ⟨g2,_,hg2,_⟩:=hr.iter 0 _ hit
  have:=(hr.dom 0 g2 hg2).1
  omega
 rcases h1 with ⟨h0,_⟩ | ⟨g,hg,e1⟩
 ·exact absurd h0 hb0
 split at hx<;>cases hx
 rename_i hone
 obtain ⟨g2,o2,hg2,hBg,hh,es,clock,rfl,hel⟩:=hr.iter b (.mp l) hit
 rw [hg] at hg2
 cases hg2
 have hchk:(Instr.checkKey false 10000 kt (.string s)).run P w = .ok () w:=by
  have h:∀ d:Nat,(Instr.checkKey false (d+1) kt (.string s)).run P w = .ok () w:=fun d=>by simp [Instr.checkKey,run_underlying hk']
  exact h 9999
 have hf:=rW (s:=s) 0 hel
 have hfk:∀ r,Instr.findNow .string (.string s) es.toList 0=some r→(Instr.findKey kt (.string s) es.toList).run P w = .ok r w:=by
  intro r hr'
  simp [Instr.findKey,run_underlying hk',hr']
 cases hfm:pS s.size (qF s.data.toList) l with
 | some y0=>
  rw [hfm] at hf
  obtain ⟨q,en,g1,g2,g3,g4,g5⟩:=hf
  rw [Nat.zero_add] at g1
  have hrun:(execOp a.eval o).run P w = .ok .skip { w with heap:=w.heap.setIfInBounds g.c (.map (es.modify q fun e=>{ e with key:=.string s,val:=a.eval y }) clock) }:=by
   have hen:es[q]?=some en:=by simpa using g2
   have hsame:Instr.sameBits 10000 (.string s) (.string s)=true:=by
    exact (MapKept.bytes_beq _ _).2 rfl
   simp [execOp,ho,Instr.mapUpdate,run_underlying hu,e1,e2,getObj,hh,hchk,hfk _ g1,hen,g3,Instr.keyThatStays,hsame,setObj,Sem.run]
  refine jDr hrun (hk j undef _ (J.le.refl _) ⟨#[],rfl,rfl⟩ (hr.setIt hit hg hh (by intro cs e fz h; cases h) (i:=.mp _) ⟨_,_,rfl,?_⟩))
  have:=g5 _ _ h3 hone
  simpa using this
 | none=>
  rw [hfm] at hf
  obtain ⟨g1,g2⟩:=hf
  have hrun:(execOp a.eval o).run P w = .ok .skip { w with heap:=w.heap.setIfInBounds g.c (.map (es.push { key:=.string s,val:=a.eval y,born:=clock }) (clock+1)) }:=by
   simp [execOp,ho,Instr.mapUpdate,run_underlying hu,e1,e2,getObj,hh,hchk,hfk _ g1,setObj,Sem.run]
  refine jDr hrun (hk j undef _ (J.le.refl _) ⟨#[],rfl,rfl⟩ (hr.setIt hit hg hh (by intro cs e fz h; cases h) (i:=.mp _) ⟨_,_,rfl,?_⟩))
  have:=g2 _ { key:=.string s,val:=a.eval y,born:=clock } rfl h3 hone
  simpa using this
theorem qCu (hr:Rel μ B w0 j σ w) (ht:RT μ j τ a) {o:Oper} {src dst:TypeId} {y:Operand} (ho:o.op = .convert src dst y) {e e':TypeId} (hs:P.underlying src=some (.slice e)) (hd:P.underlying dst=some (.slice e')) (hue:P.underlying e'=some (.int .u8)) (heq:src=dst)
  {y':X} (hy:xOf y=some y') {x:AV} (hx:eSm (y'.ev τ) σ=some (x,σ')):vO P μ B w0 j o a w x σ':=by
 intro K Q hk
 have h1:=jJ hy ht
 subst heq
 rw [hs] at hd
 cases hd
 unfold eSm at hx
 split at hx<;>first | (cases hx; done) | skip
 rename_i b off n sz hb
 rw [hb] at h1
 unfold qKx at hx
 split at hx<;>first | (cases hx; done) | skip
 rename_i blk hblk
 split at hx<;>cases hx
 rename_i hpl
 have hb0:=hr.lt hblk
 have hlid:=hr.lid
 rcases h1 with ⟨e0,_⟩ | ⟨g,cap,hg,e1,hrest⟩
 ·omega
 obtain ⟨g2,cs,fz,hg2,hBg,hh,hcs,hfz,hth,hlen,hall,hcells⟩:=hr.get b blk hblk
 rw [hg] at hg2
 cases hg2
 obtain rfl:=hfz hpl
 have hsh:w.shape? g.c=some (blk.elem,cs.size):=by simp only [World.shape?,hh]
 have hrun:(execOp a.eval o).run P w = .ok (.value (.slice (some ⟨g.c,off,none⟩) n cap)) (w.freeze ⟨g.c,cs.size,none⟩ 1):=by
  simp [execOp,ho,convert,run_underlying hs,run_underlying hue,e1,markStringish,hsh]
 have hfzw:w.freeze ⟨g.c,cs.size,none⟩ 1={ w with heap:=w.heap.modify g.c fun
     | .cells c elem (lo,hi)=>.cells c elem (if lo==hi then (cs.size,cs.size+1) else (min lo cs.size,max hi (cs.size+1)))
     | o=>o }:=by unfold World.freeze; rw [if_neg (by decide)]; rfl
 have hnew:(w.freeze ⟨g.c,cs.size,none⟩ 1).heap[g.c]?=some (.cells cs blk.elem (cs.size,cs.size+1)):=by
  rw [hfzw]
  simp only [Array.getElem?_modify,if_pos,hh]
  rfl
 have hold:∀ k,k≠g.c→(w.freeze ⟨g.c,cs.size,none⟩ 1).heap[k]?=w.heap[k]?:=by
  intro k hk'
  rw [hfzw]
  simp only [Array.getElem?_modify]
  rw [if_neg (Ne.symm hk')]
 have hsz:(w.freeze ⟨g.c,cs.size,none⟩ 1).heap.size=w.heap.size:=by rw [hfzw]; simp
 refine qR hrun (hk j _ _ (J.le.refl _) (.inr ⟨g,cap,hg,rfl,hrest⟩) ⟨?_,?_,hr.pos,hr.lid,?_,?_,?_,hr.iters (J.le.refl _) fun k o hs' hnc=>by rw [hold k (by rintro rfl; rw [hh] at hs'; cases hs'; exact hnc _ _ _ rfl)]; exact hs',hr.itin,hr.held⟩)
 ·exact hr.below.trans ⟨by rw [hfzw],by rw [hfzw],by rw [hfzw],by omega,fun k hk'=>hold k (fun e=>hBg (e ▸ hk'))⟩
 ·rw [hsz]; exact hr.base
 ·intro b2 blk2 h2
  rw [Tr.get_set30 _ _ _ _ (by omega)] at h2
  by_cases e:b2=b
  ·subst e
   rw [if_pos rfl] at h2
   cases h2
   exact ⟨g,cs,_,hg,hBg,hnew,hcs,(fun h=>by cases h),(fun o ho' h=>by simp at h; omega),hlen,hall,hcells⟩
  ·rw [if_neg e] at h2
   obtain ⟨g2,cs2,fz2,hg2,hB2,hh2,r⟩:=hr.get b2 blk2 h2
   have hne:g2.c≠g.c:=fun ec=>e (hr.inj _ _ _ _ _ _ h2 hblk hg2 hg ec)
   exact ⟨g2,cs2,fz2,hg2,hB2,by rw [hold _ hne]; exact hh2,r⟩
 ·have sub:∀ x bx,(Tr.put σ.t b (some ⟨blk.elem,false,blk.cells⟩)).get x=some bx→∃ by_,σ.t.get x=some by_:=by
   intro x bx hx
   rw [Tr.get_set30 _ _ _ _ (by omega)] at hx
   by_cases e:x=b
   ·subst e; exact ⟨_,hblk⟩
   ·rw [if_neg e] at hx; exact ⟨_,hx⟩
  intro x x' bx bx' g1 g2 hx hx' hg1 hg2 hc
  obtain ⟨y,hy⟩:=sub _ _ hx
  obtain ⟨y',hy'⟩:=sub _ _ hx'
  exact hr.inj _ _ _ _ _ _ hy hy' hg1 hg2 hc
 ·intro b2 g2 h2
  have:=hr.dom b2 g2 h2
  exact ⟨this.1,this.2.1,by omega⟩
theorem qCv (hr:Rel μ B w0 j σ w) (ht:RT μ j τ a) {o:Oper} {p y:Operand} {t t':TypeId} (ho:o.op = .call ⟨.builtin .unsafeString, #[p,y], #[t,t']⟩) {e:Nat} (hu:P.underlying t=some (.pointer e)) (hs:xJ P e=some 1)
  {p' y':X} (hp:xOf p=some p') (hy:xOf y=some y') {x:AV} (hx:eUs e (p'.ev τ) (asI (y'.ev τ)) σ=some (x,σ')):vO P μ B w0 j o a w x σ':=by
 intro K Q hk
 have h0:=jJ hp ht
 have h1:=jJ hy ht
 have hexec:∀ (V:Value) (w':World),(Builtin.unsafeString_ #[t,t'] o.type #[a.eval p,a.eval y]).run P w = .ok V w'→(execOp a.eval o).run P w = .ok (.value V) w':=by
  intro V w' h
  simp [execOp,ho,resolve,invoke,builtin,h]
 unfold eUs at hx
 split at hx
 ·cases hx
 ·rename_i n hn
  have e1:a.eval y = .int .i64 n:=by
   unfold asI at hn
   split at hn<;>cases hn
   rename_i h
   rw [h] at h1
   exact h1
  split at hx
  ·rename_i hq
   rw [hq] at h0
   have e0:a.eval p = .pointer none:=h0
   split at hx<;>cases hx
   rename_i h
   obtain rfl:n=0:=by simpa using h
   exact qR (hexec _ w (by rw [e0,e1]; exact Lib.run_unsafeString_none w t t' o.type none)) (hk j _ w (J.le.refl _) ⟨_,rfl,rfl,rfl⟩ hr)
  ·rename_i b hq
   rw [hq] at h0
   obtain ⟨g,hg,e0⟩:=h0
   split at hx
   ·rename_i h
    obtain rfl:n=0:=by simpa using h
    cases hx
    exact qR (hexec _ w (by rw [e0,e1]; exact Lib.run_unsafeString_none w t t' o.type _)) (hk j _ w (J.le.refl _) ⟨_,rfl,rfl,rfl⟩ hr)
   ·rename_i hn0
    have hn0':n≠0:=by simpa using hn0
    unfold qKy at hx
    split at hx<;>first | (cases hx; done) | skip
    rename_i blk hblk
    split at hx<;>first | (cases hx; done) | skip
    rename_i hel
    simp only [Bool.and_eq_true,Nat.beq_eq,Nat.ble_eq] at hel
    obtain ⟨rfl,hpl⟩:=hel
    unfold qKz at hx
    split at hx<;>first | (cases hx; done) | skip
    rename_i l hl
    obtain ⟨vs,hlen,hrl,_,_,hcell⟩:=hr.load hl hg
    have key:σ'=σ.kill b∧∃ bs:List UInt8,vs=bs.map (fun b=>Value.int .u8 b.toNat)∧RV μ j x (.string ⟨bs.toArray⟩):=by
     split at hx
     ·rename_i v hv
      cases hx
      obtain ⟨bs,e2,e3⟩:=nC hv hrl
      exact ⟨rfl,bs,e2,_,rfl,by show bs.toArray.size=n; rw [←hlen,e2]; simp,by simpa using e3⟩
     ·split at hx<;>cases hx
      rename_i hall
      obtain ⟨bs,e2⟩:=jGw hall hrl
      exact ⟨rfl,bs,e2,_,rfl,by show RL μ j l (bs.toArray.toList.map _); rw [show bs.toArray.toList=bs from rfl,←e2]; exact hrl⟩
    obtain ⟨rfl,bs,e2,hxv⟩:=key
    have hbl:bs.length=n:=by rw [←hlen,e2]; simp
    obtain ⟨g2,cs,fz,hg2,hBg,hh,hcs,hfz,hth,hlen2,hall,hcells⟩:=hr.get b blk hblk
    rw [hg] at hg2
    cases hg2
    have hsh:w.shape? g.c=some (blk.elem,cs.size):=by simp only [World.shape?,hh]
    obtain ⟨i,hi,hi1⟩:=vL hs
    have hco:P.cellsOf blk.elem=1:=by simp [Program.cellsOf,hi,hi1]
    have hnle:n≤cs.size:=by
     unfold Mem.load at hl
     rw [hblk] at hl
     have:=(zH _ _ _ hl).2
     simp only [qP,List.length_drop] at this
     omega
    have hrun:=Lib.run_unsafeString_row (P:=P) w t t' o.type blk.elem hu hco g.c cs.size hsh bs (by intro h; rw [h] at hbl; simp at hbl; omega) (by omega) (by omega)
     (fun q y hy=>hcell q _ (by rw [e2]; simp [hy]))
    rw [hbl] at hrun
    have hfz:w.freeze ⟨g.c,0,none⟩ n={ w with heap:=w.heap.modify g.c fun
     | .cells c elem (lo,hi)=>.cells c elem (if lo==hi then (0,0+n) else (min lo 0,max hi (0+n)))
     | o=>o }:=by unfold World.freeze; rw [if_neg hn0']; rfl
    refine qR (hexec _ _ (by rw [e0,e1]; exact hrun)) (hk j _ _ (J.le.refl _) hxv (hr.turn hblk hg ?_ ?_ ?_ ?_ ?_))
    ·rw [hfz]
    ·rw [hfz]
    ·rw [hfz]
    ·rw [hfz]; simp
    ·intro k hk'
     rw [hfz]
     simp only [Array.getElem?_modify]
     rw [if_neg (Ne.symm hk')]
  ·cases hx
end
end
end Go.Proofs.YtngfdcnglojcaaaGreatDoor.Ev
