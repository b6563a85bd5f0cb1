/-
The operations of the small language that write or make memory, and calls, are the model's. No program is named here.
-/
import Derived.Test.YtdlhiljbhepliaaGreatDoorEvE
import Derived.Laws.RangeString
import Derived.Lib.MakeNoZero
set_option linter.all false
namespace Go.Proofs.YtdlhiljbhepliaaGreatDoor.Ev
noncomputable section
open Go Go.RowKit
section
variable {P:Program} {μ:Mu} {B:Nat→Prop} {w0 w:World} {j:J} {σ σ':Mem} {τ:T} {a:Act}
theorem Rel.add (h:Rel μ B w0 j σ w) {blk:xY} {b:Nat} (hn:σ.new blk=some (b,σ')) (cs:Array Value) (fz:Nat×Nat) (w':World) (c c2:Nat)
  (ho:w'.os=w.os) (ht:w'.tape=w.tape) (hu:w'.output=w.output) (hsz:w.heap.size≤w'.heap.size) (hB:¬ B c) (hB2:¬ B c2)
  (hnew:w'.heap[c]?=some (.cells cs blk.elem fz)) (hkeep:∀ k,k<w.heap.size→k≠c→k≠c2→w'.heap[k]?=w.heap[k]?)
  (hfree:∀ b' blk' g,σ.t.get b'=some blk'→j b'=some g→g.c≠c∧g.c≠c2) (hsi:∀ (k:Nat) (o:Obj),w.heap[k]?=some o→jBz o→k≠c∧k≠c2)
  (hf:blk.plain=true→fz=(0,0)) (hth:jJi cs.size fz) (hlen:blk.cells.length≤cs.size) (h1:jS blk.cells=true)
  (hc:∀ (i:Nat) (x:AV),blk.cells[i]?=some x→∃ v:Value,cs[i]?=some v∧RV μ j x v) :
  b=σ.nx∧j.le (j.upd b ⟨c,cs.size⟩)∧Rel μ B w0 (j.upd b ⟨c,cs.size⟩) σ' w':=by
 unfold Mem.new at hn;split at hn
 ·rename_i hlt;have hlt':0≤σ.nx:=Nat.zero_le _;simp only [Option.some.injEq,Prod.mk.injEq] at hn;obtain ⟨rfl,rfl⟩:=hn;have hle:=h.le_upd ⟨c,cs.size⟩;have hcl:c<w'.heap.size:=(Array.getElem?_eq_some_iff.1 hnew).1;refine ⟨rfl,hle,?_,?_,?_,?_,?_,?_,?_,h.iters hle fun k o hk hnc=>by rw [hkeep k (Array.getElem?_eq_some_iff.1 hk).1 (hsi _ _ hk hnc).1 (hsi _ _ hk hnc).2]; exact hk,h.itins hle,h.held⟩
  ·exact h.below.trans ⟨ho,ht,hu,hsz,fun k hk=>hkeep k (h.base k hk) (fun e=>hB (e ▸ hk)) (fun e=>hB2 (e ▸ hk))⟩
  ·intro k hk; have:=h.base k hk; omega
  ·show 0<σ.nx+1; omega
  ·exact Nat.zero_le _
  ·intro x bx hx;rw [Tr.get_set30 _ _ _ _ (by omega)] at hx
   by_cases e:x=σ.nx
   ·subst e;rw [if_pos rfl] at hx;cases hx;refine ⟨⟨c,cs.size⟩,cs,fz,by simp [J.upd],hB,hnew,rfl,hf,hth,hlen,h1,?_⟩
    intro i a ha;obtain ⟨v,hv,hr⟩:=hc i a ha;exact ⟨v,hv,hr.mono hle⟩
   ·rw [if_neg e] at hx;obtain ⟨g,cs',fz',hj,hB',hh,h2,h3,h4,h5,h6,h7⟩:=h.get x bx hx;have hfr:=hfree x bx g hx hj;refine ⟨g,cs',fz',hle _ _ hj,hB',?_,h2,h3,h4,h5,h6,fun i a ha=>?_⟩
    ·rw [hkeep _ (h.dom _ _ hj).2.2 hfr.1 hfr.2]; exact hh
    ·obtain ⟨v,hv,hr⟩:=h7 i a ha;exact ⟨v,hv,hr.mono hle⟩
  ·have hid:∀ y by_ gy,(Tr.put σ.t σ.nx (some blk)).get y=some by_→(j.upd σ.nx ⟨c,cs.size⟩) y=some gy→(y=σ.nx∧gy.c=c)∨(y≠σ.nx∧σ.t.get y=some by_∧j y=some gy∧gy.c≠c):=by
    intro y by_ gy hy hg;rw [Tr.get_set30 _ _ _ _ (by omega)] at hy
    unfold J.upd at hg;by_cases e:y=σ.nx
    ·rw [if_pos e] at hg;cases hg;exact .inl ⟨e,rfl⟩
    ·rw [if_neg e] at hy hg;exact .inr ⟨e,hy,hg,(hfree _ _ _ hy hg).1⟩
   intro x x' bx bx' g g' hx hx' hg hg' hc';rcases hid x bx g hx hg with ⟨e,e2⟩ | ⟨e,e2,e3,e4⟩<;>rcases hid x' bx' g' hx' hg' with ⟨f,f2⟩ | ⟨f,f2,f3,f4⟩
   ·rw [e,f]
   ·omega
   ·omega
   ·exact h.inj _ _ _ _ _ _ e2 f2 e3 f3 hc'
  ·intro x g hg;show 0<x∧x<σ.nx+1∧_;unfold J.upd at hg;by_cases e:x=σ.nx
   ·rw [if_pos e] at hg;cases hg;have:=h.pos;exact ⟨by omega,by omega,hcl⟩
   ·rw [if_neg e] at hg;have:=h.dom x g hg;exact ⟨this.1,by omega,by omega⟩
 ·cases hn
theorem Rel.later (h:Rel μ B w0 j σ w) {w':World} (hb:Below w.heap.size w w'):Rel μ B w0 j σ w':=by
 refine ⟨h.below.trans ((bP.of_below hb).mono h.base),?_,h.pos,h.lid,?_,h.inj,fun b g hj=>?_,h.iters (J.le.refl _) fun k o hk _=>by rw [hb.block _ (Array.getElem?_eq_some_iff.1 hk).1]; exact hk,h.itin,h.held⟩
 ·intro k hk; have:=h.base k hk; have:=hb.size; omega
 ·intro b blk hb';obtain ⟨g,cs,fz,hj,hB,hh,r⟩:=h.get b blk hb';exact ⟨g,cs,fz,hj,hB,by rw [hb.block _ (h.dom _ _ hj).2.2]; exact hh,r⟩
 ·have:=h.dom b g hj; have:=hb.size
  exact ⟨by omega,by omega,by omega⟩
theorem jFg (g off:Nat) (t:TypeId) (fr:Nat×Nat):∀ (vs:List Value) (i:Nat) (cur:Array Value) (w:World),w.heap[g]?=some (.cells cur t fr)→jJi cur.size fr→off+i+vs.length≤cur.size→(∀ v∈vs,v.oneCell'=true) →
  ∃ (cur':Array Value) (w':World),(storeCells ⟨g,off,none⟩ vs i).run P w = .ok () w'∧w'.heap[g]?=some (.cells cur' t fr)∧cur'.size=cur.size∧(∀ k,cur'[k]?=if off+i≤k∧k<off+i+vs.length then vs[k - (off+i)]? else cur[k]?) ∧
   w'.os=w.os∧w'.tape=w.tape∧w'.output=w.output∧w'.heap.size=w.heap.size∧∀ k,k≠g→w'.heap[k]?=w.heap[k]?
 | [],i,cur,w,hg,_,_,_=>⟨cur,w,rfl,hg,rfl,fun k=>by rw [if_neg (by simp only [List.length_nil]; omega)],rfl,rfl,rfl,rfl,fun _ _=>rfl⟩
 | v::vs,i,cur,w,hg,hth,hl,h1=>by
  simp only [List.length_cons] at hl;have hcell:w.cell? ⟨g,off+i,none⟩=some cur[off+i]:=by
   rw [cell_of_row w g (off+i) cur t fr hg]; exact Array.getElem?_eq_getElem (by omega)
  have hfz:w.frozen? ⟨g,off+i,none⟩=false:=by
   have:=hth (off+i) (by omega)
   simp only [World.frozen?,hg];simp only [Bool.and_eq_false_iff,decide_eq_false_iff_not];omega
  have hst:(store ((⟨g,off,none⟩:Addr).add i) v).run P w = .ok () (w.setCell ⟨g,off+i,none⟩ v):=by
   rw [mA,run_store P w _ v _ (h1 v (by simp)),hcell,hfz]
   rfl
  have hrow:(w.setCell ⟨g,off+i,none⟩ v).heap[g]?=some (.cells (cur.setIfInBounds (off+i) v) t fr):=by
   rw [setCell_eq_setRow w g (off+i) cur t fr v hg];exact setRow_heap w g cur _ t fr hg
  obtain ⟨cur',w',hrun,e1,e2,e3,e4,e5,e6,e7,e8⟩:=jFg g off t fr vs (i+1) (cur.setIfInBounds (off+i) v) (w.setCell ⟨g,off+i,none⟩ v) hrow (by simpa using hth) (by simp; omega) (fun u hu=>h1 u (by simp [hu]))
  refine ⟨cur',w',?_,e1,by simpa using e2,fun k=>?_,e4,e5,e6,by simpa using e7,fun k hk=>?_⟩
  ·simp only [storeCells,Sem.run_bind,hst,Result.andThen_ok,hrun]
  ·rw [e3 k];by_cases e:k=off+i
   ·subst e;rw [if_neg (by omega),if_pos ⟨by omega,by simp⟩,Array.getElem?_setIfInBounds_self_of_lt (by omega)]
    simp
   ·rw [Array.getElem?_setIfInBounds_ne (Ne.symm e)];by_cases e2:off+(i+1)≤k∧k<off+(i+1)+vs.length
    ·rw [if_pos e2,if_pos ⟨by omega,by simp; omega⟩,show k - (off+i)=(k - (off+(i+1)))+1 from by omega]
     simp
    ·rw [if_neg e2,if_neg (by simp; omega)]
  ·rw [e8 k hk,Below.heap_setCell _ _ _ _ hk]
theorem Rel.store (h:Rel μ B w0 j σ w) (hμ:uQ μ) {b o:Nat} {l:List AV} (hs:σ.store b o l=some σ') {g:G} (hj:j b=some g) {vs:List Value} (hv:RL μ j l vs) (h1:jS l=true) :
  ∃ w',(storeCells ⟨g.c,o,none⟩ vs).run P w = .ok () w'∧Rel μ B w0 j σ' w':=by
 unfold Mem.store at hs;split at hs
 ·rename_i blk hb;split at hs
  ·rename_i cs' hput;simp only [Option.some.injEq] at hs; subst hs;obtain ⟨g',cs,fz,hj',hB,hh,h2,h3,h4,h5,h6,h7⟩:=h.get b blk hb;rw [hj] at hj';cases hj';have hlen:=RL.len _ _ hv;have hol:=(dP _ _ _ _ hput).2;obtain ⟨cur',w',hrun,e1,e2,e3,e4,e5,e6,e7,e8⟩:=jFg (P:=P) g.c o blk.elem fz vs 0 cs w hh h4 (by omega) (RL.ones hμ h1 hv)
   have hb0:=h.lt hb;have hlid:=h.lid;refine ⟨w',hrun,?_,?_,h.pos,h.lid,?_,?_,?_,h.iters (J.le.refl _) fun k o hk hnc=>by rw [e8 k (by rintro rfl; rw [hh] at hk; cases hk; exact hnc _ _ _ rfl)]; exact hk,h.itin,h.held⟩
   ·exact h.below.trans ⟨e4,e5,e6,by omega,fun k hk=>e8 k (fun e=>hB (e ▸ hk))⟩
   ·rw [e7]; exact h.base
   ·intro x bx hx;rw [Tr.get_set30 _ _ _ _ (by omega)] at hx
    by_cases e:x=b
    ·subst e;rw [if_pos rfl] at hx;cases hx;refine ⟨g,cur',fz,hj,hB,e1,by rw [e2]; exact h2,h3,by rw [e2]; exact h4,by rw [vF hput,e2]; exact h5,?_,?_⟩
     ·have aux:∀ (m:List AV),(∀ (i:Nat) (x:AV),m[i]?=some x→x.one=true)→jS m=true:=by
       intro m
       induction m with
       | nil=>intro _; rfl
       | cons y r ih=>intro hm; simp only [jS,Bool.and_eq_true]; exact ⟨hm 0 y rfl,ih fun i x hx=>hm (i+1) x (by simpa using hx)⟩
      have aux2:∀ (m:List AV),jS m=true→∀ (i:Nat) (x:AV),m[i]?=some x→x.one=true:=by
       intro m
       induction m with
       | nil=>intro _ i x hx; simp at hx
       | cons y r ih=>
        intro hm i x hx;simp only [jS,Bool.and_eq_true] at hm;cases i with
        | zero=>simp at hx; subst hx; exact hm.1
        | succ i=>exact ih hm.2 i x (by simpa using hx)
      refine aux _ fun i x hx=>?_;rw [uK hput] at hx;split at hx
      ·exact aux2 _ h1 _ _ hx
      ·exact aux2 _ h6 _ _ hx
     ·intro i y hy;rw [uK hput] at hy;rw [e3 i];split at hy
      ·rename_i hi;obtain ⟨v,hv',hr'⟩:=RL.nth _ _ hv _ _ hy;exact ⟨v,by rw [if_pos (by omega)]; simpa using hv',hr'⟩
      ·rename_i hi;obtain ⟨v,hv',hr'⟩:=h7 i y hy;exact ⟨v,by rw [if_neg (by omega)]; exact hv',hr'⟩
    ·rw [if_neg e] at hx;obtain ⟨g',cs2,fz2,hj2,hB2,hh2,r⟩:=h.get x bx hx;have hne:g'.c≠g.c:=fun ec=>e (h.inj _ _ _ _ _ _ hx hb hj2 hj ec);exact ⟨g',cs2,fz2,hj2,hB2,by rw [e8 _ hne]; exact hh2,r⟩
   ·have sub:∀ x bx,(Tr.put σ.t b (some ⟨blk.elem,blk.plain,cs'⟩)).get x=some bx→∃ by_,σ.t.get x=some by_:=by
     intro x bx hx;rw [Tr.get_set30 _ _ _ _ (by omega)] at hx
     by_cases e:x=b
     ·subst e; exact ⟨_,hb⟩
     ·rw [if_neg e] at hx; exact ⟨_,hx⟩
    intro x x' bx bx' g1 g2 hx hx' hg1 hg2 hc;obtain ⟨y,hy⟩:=sub _ _ hx;obtain ⟨y',hy'⟩:=sub _ _ hx';exact h.inj _ _ _ _ _ _ hy hy' hg1 hg2 hc
   ·intro x gx hx;have:=h.dom x gx hx;exact ⟨this.1,this.2.1,by omega⟩
  ·cases hs
 ·cases hs
def kU (P:Program) (μ:Mu) (call:yR):Prop:=
 ∀ (f:Nat) (args:List AV) (σ:Mem) (x:AV) (σ':Mem),call f args σ=some (x,σ')→∀ (B:Nat→Prop) (w0:World) (j:J) (w:World) (vs:List Value),Rel μ B w0 j σ w→RL μ j args vs →
  (∃ fn, P.funcs[f]? = some fn ∧ fn.body.isNone = false ∧ (fn.name == "runtime.NumGoroutine") = false) ∧
  Calls P f vs.toArray w fun e w'=>∃ (j':J) (v:Value),e = .returned v∧j.le j'∧RV μ j' x v∧Rel μ B w0 j' σ' w'
theorem fR {f : Nat} {fn : Func} (h1 : P.funcs[f]? = some fn) (h2 : fn.body.isNone = false) (h3 : (fn.name == "runtime.NumGoroutine") = false) (args : Array Value) : (callFunc f args).run P w = .ok (.enter f args) w := by
 unfold callFunc;simp only [Sem.run_bind,run_program,Result.andThen_ok,h1];rw [if_neg (by rw [h3]; simp),if_neg (by rw [h2]; simp)]
 rfl
mutual
theorem jNl {j j':J}:∀ (x:AV) (v:Value),x.flat=true→RV μ j x v→RV μ j' x v
 | .b _,_,_,h=>h
 | .i _ _,_,_,h=>h
 | .s _ _,_,_,h=>h
 | .p0,_,hf,_=>by simp [AV.flat] at hf
 | .p _ _,_,hf,_=>by simp [AV.flat] at hf
 | .sl0,_,hf,_=>by simp [AV.flat] at hf
 | .sl _ _ _ _,_,hf,_=>by simp [AV.flat] at hf
 | .f0,_,hf,_=>by simp [AV.flat] at hf
 | .ni,_,_,h=>h
 | .f _ _ _,_,hf,_=>by simp [AV.flat] at hf
 | .fi _,_,_,h=>h
 | .fq _,_,_,h=>h
 | .agg _,_,hf,_=>by simp [AV.flat] at hf
 | .tup l,v,hf,h=>by
  obtain ⟨a,e,h1⟩:=h;exact ⟨a,e,lT l _ (by simpa [AV.flat] using hf) h1⟩
theorem lT {j j':J}:∀ (x:List AV) (v:List Value),jDg x=true→RL μ j x v→RL μ j' x v
 | [],_,_,h=>h
 | x::r,v,hf,h=>by
  simp only [jDg,Bool.and_eq_true] at hf;obtain ⟨u,t,e,h1,h2⟩:=h;exact ⟨u,t,e,jNl x u hf.1 h1,lT r t hf.2 h2⟩
end
def j0:J:=fun _=>none
theorem qQe (w:World) (hw:jQp μ w):Rel μ (· < w.heap.size) w j0 mP w:=
 ⟨bP.refl _ _,fun _ h=>h,by decide,by decide,fun b blk h=>(by rw [show mP.t = .e from rfl,Tr.get_e] at h; cases h),fun b b' blk blk' g g' h=>(by rw [show mP.t = .e from rfl,Tr.get_e] at h; cases h),fun b g h=>(by cases h),fun b i h=>(by rw [show mP.it = .e from rfl,Tr.get_e] at h; cases h),fun b b' i i' g g' h=>(by rw [show mP.it = .e from rfl,Tr.get_e] at h; cases h),fun g o hg=>⟨(Array.getElem?_eq_some_iff.1 (hw g o hg)).1,hw g o hg⟩⟩
theorem dV {o:Oper} {v:Value} {w':World} {K:Act→World→Prop} {Q:Exit→Act→World→Prop} (h:(execOp a.eval o).run P w = .ok (.value v) w') (hk:K (a.put o.dst v) w'):o.wp P a w K Q:=by
 unfold Oper.wp;rw [h];exact hk
theorem qEz {o:Oper} {w':World} {K:Act→World→Prop} {Q:Exit→Act→World→Prop} (h:(execOp a.eval o).run P w = .ok .skip w') (hk:K (a.put o.dst undef) w'):o.wp P a w K Q:=by
 unfold Oper.wp;rw [h];exact hk
theorem iW {o:Oper} {f:FuncId} {args:Array Value} {K:Act→World→Prop} {Q:Exit→Act→World→Prop} {R:Value→World→Prop} (h:(execOp a.eval o).run P w = .ok (.enter f args) w)
  (hc:Calls P f args w fun e w'=>∃ v,e = .returned v∧R v w') (hk:∀ v w',R v w'→K (a.put o.dst v) w'):o.wp P a w K Q:=by
 unfold Oper.wp;rw [h,Oper.upon_enter];refine hc.mono fun e w' ⟨v,he,hr⟩=>?_;subst he;exact hk v w' hr
def tJ (P:Program) (μ:Mu) (B:Nat→Prop) (w0:World) (j:J) (o:Oper) (a:Act) (w:World) (x:AV) (σ':Mem):Prop:=
 ∀ (K:Act→World→Prop) (Q:Exit→Act→World→Prop),(∀ (j':J) (v:Value) (w':World),j.le j'→RV μ j' x v→Rel μ B w0 j' σ' w'→K (a.put o.dst v) w')→o.wp P a w K Q
theorem jKr {e:Nat} {pl:Bool} {cells:List AV} {k:Nat→AV} {x:AV} (h:pC σ e pl cells k=some (x,σ')):∃ b,jS cells=true∧σ.new ⟨e,pl,cells⟩=some (b,σ')∧x=k b:=by
 unfold pC at h;split at h
 ·rename_i h1;split at h
  ·rename_i b s hn;cases h;exact ⟨b,h1,hn,rfl⟩
  ·cases h
 ·cases h
theorem jCa (hr:Rel μ B w0 j σ w) {o:Oper} {e:Nat} {cells:List AV} {k:Nat→AV} {x:AV} (h:pC σ e true cells k=some (x,σ')) {cs:Array Value} (hv:RL μ j cells cs.toList)
  {V:Value} (hrun:(execOp a.eval o).run P w = .ok (.value V) (w.alloc (.cells cs e))) (hV:∀ b,RV μ (j.upd b ⟨w.heap.size,cs.size⟩) (k b) V):tJ P μ B w0 j o a w x σ':=by
 intro K Q hk;obtain ⟨b,h1,hn,rfl⟩:=jKr h;have hlen:=RL.len _ _ hv;obtain ⟨rfl,hle,hrel⟩:=hr.new hn cs (0,0) (w.alloc (.cells cs e)) rfl rfl rfl rfl (fun _=>rfl) (fun o _=>by simp) (by simpa using Nat.le_of_eq hlen.symm) h1
  (fun i x hx=>by obtain ⟨v,hv',hr'⟩:=RL.nth _ _ hv i x hx; exact ⟨v,by simpa using hv',hr'⟩)
 exact dV hrun (hk _ _ _ hle (hV _) hrel)
theorem wH (hμ:uQ μ) (hr:Rel μ B w0 j σ w) (ht:RT μ j τ a) {o:Oper} {c:C} {x:AV} (hc:yH P o=some c) (hx:eP σ (qL c τ σ)=some (x,σ')):tJ P μ B w0 j o a w x σ':=by
 unfold eP at hx;split at hx
 ·rename_i v hv;cases hx;obtain ⟨u,hrun,hu⟩:=qDp hμ hr ht hc hv;exact fun K Q hk=>dV hrun (hk _ _ _ (J.le.refl _) hu hr)
 ·cases hx
theorem jPf {e:Nat} {z:List AV} (hz:rF P e=some z):∃ v,(zeroValue e).run P w = .ok v w∧RL μ j z v.cells.toList:=by
 obtain ⟨i,v,hi,hv,hr,_⟩:=jGi (μ:=μ) (j:=j) hz;exact ⟨v,by simp [zeroValue,typeInfo,hi,hv],hr⟩
theorem jQq (hr:Rel μ B w0 j σ w) {o:Oper} {e:Nat} (ho:o.op = .alloc e) {z:List AV} (hz:rF P e=some z) {x:AV} (hx:pC σ e true z (fun b=>.p b 0)=some (x,σ')):tJ P μ B w0 j o a w x σ':=by
 obtain ⟨v,hrun,hv⟩:=jPf (w:=w) (μ:=μ) (j:=j) hz;refine jCa hr hx hv (V:=.pointer (some ⟨w.heap.size,0,none⟩)) ?_ (fun b=>⟨⟨w.heap.size,v.cells.size⟩,by simp [J.upd],rfl⟩)
 simp [execOp,ho,Instr.alloc,hrun,newVar,newRow]
theorem jZy (hμ:uQ μ) (hr:Rel μ B w0 j σ w) (ht:RT μ j τ a) {o:Oper} {e:Nat} {y:Operand} (ho:o.op = .box e y) {y':X} (hy:xOf y=some y') {x:AV} (hx:eBx e (y'.ev τ).cells σ=some (x,σ')):tJ P μ B w0 j o a w x σ':=by
 unfold eBx at hx;split at hx
 ·refine jCa hr hx ((qM hy ht).cells hμ) (V:=.pointer (some ⟨w.heap.size,0,none⟩)) ?_ (fun b=>⟨⟨w.heap.size,(a.eval y).cells.size⟩,by simp [J.upd],rfl⟩)
  simp [execOp,ho,Instr.box,newVar,newRow]
 ·cases hx
theorem jQr (hμ:uQ μ) (hr:Rel μ B w0 j σ w) (ht:RT μ j τ a) {o:Oper} {t:Nat} {p y:Operand} (ho:o.op = .store t p y) {p' y':X} {n:Nat} (hn:kF P t=some n) (hp:xOf p=some p') (hy:xOf y=some y') {x:AV}
  (hx:eSt n p' y' τ σ=some (x,σ')):tJ P μ B w0 j o a w x σ':=by
 have h1:=qM hp ht;have h2:=(qM hy ht).cells hμ;unfold eSt at hx;split at hx
 ·rename_i b off hb;rw [hb] at h1;obtain ⟨g,hg,he⟩:=h1;unfold qLb at hx;split at hx
  ·rename_i hs;simp only [Bool.and_eq_true] at hs;split at hx
   ·rename_i s hst;cases hx;obtain ⟨w',hrun,hrel⟩:=hr.store (P:=P) hμ hst hg h2 hs.2;intro K Q hk;refine qEz (w':=w') ?_ (hk j undef w' (J.le.refl _) ⟨#[],rfl,rfl⟩ hrel);have hsz:(a.eval y).cells.size=n:=by
     have:=RL.len _ _ h2;rw [vB _ _ hs.1] at this;simpa using this
    simp [execOp,ho,Instr.storeAt,Instr.sureAddr,he,storeVar,run_sizeOf hn,hsz,hrun]
   ·cases hx
  ·cases hx
 ·cases hx
theorem jXg (hr:Rel μ B w0 j σ w) (ht:RT μ j τ a) {call:yR} (hcall:kU P μ call) {o:Oper} {f:FuncId} {args:Array Operand} {ats:Array TypeId} (ho:o.op = .call ⟨.value (.func f),args,ats⟩)
  {xs:List X} (hxs:jGh args.toList=some xs) {x:AV} (hx:call f (evs τ xs) σ=some (x,σ')):tJ P μ B w0 j o a w x σ':=by
 intro K Q hk;have hl:=nC hxs ht;obtain ⟨⟨fn,h1,h2,h3⟩,hc⟩:=hcall f _ σ x σ' hx B w0 j w _ hr hl;have e:(args.toList.map a.eval).toArray=args.map a.eval:=by rw [←Array.toList_map,Array.toArray_toList]
 rw [e] at hc;refine iW (R:=fun v w'=>∃ j',j.le j'∧RV μ j' x v∧Rel μ B w0 j' σ' w') ?_ (hc.mono fun e w' ⟨j',v,he,h⟩=>⟨v,he,j',h⟩) (fun v w' ⟨j',a1,a2,a3⟩=>hk j' v w' a1 a2 a3);simp [execOp,ho,resolve,Act.eval,Deferred.ofValue,invoke,fR h1 h2 h3]
theorem qGf (hr:Rel μ B w0 j σ w) (ht:RT μ j τ a) {call:yR} (hcall:kU P μ call) {o:Oper} {f:FuncId} {args:Array Operand} {ats:Array TypeId} (ho:o.op = .call ⟨.value (.func f),args,ats⟩)
  {xs:List X} (hxs:jGh args.toList=some xs) {x:AV} (hx:eCp call f (evs τ xs) σ=some (x,σ')):tJ P μ B w0 j o a w x σ':=by
 intro K Q hk;have hl:=nC hxs ht;unfold eCp at hx;split at hx
 ·rename_i hf;split at hx
  ·rename_i v s hv;split at hx
   ·rename_i hfv;cases hx;obtain ⟨⟨fn,h1,h2,h3⟩,hc⟩:=hcall f _ mP _ s hv (· < w.heap.size) w j0 w _ (qQe w hr.heldW) (lT _ _ hf hl);have e:(args.toList.map a.eval).toArray=args.map a.eval:=by rw [←Array.toList_map,Array.toArray_toList]
    rw [e] at hc;refine iW (R:=fun v w'=>RV μ j x v∧Below w.heap.size w w') ?_ (hc.mono fun e w' ⟨j',v,he,_,h,hrel⟩=>⟨v,he,jNl _ _ hfv h,hrel.below.to_below⟩) (fun v w' ⟨a1,a2⟩=>hk j v w' (J.le.refl _) a1 (hr.later a2));simp [execOp,ho,resolve,Act.eval,Deferred.ofValue,invoke,fR h1 h2 h3]
   ·cases hx
  ·cases hx
 ·cases hx
mutual
theorem jIc {p:Nat→Bool} {j1 j2:J} (h0:j1 0=none) (hj:∀ b,p b=true→j1 b=j2 b):∀ (x:AV) (v:Value),x.okIn p=true→RV μ j1 x v→RV μ j2 x v
 | .b _,_,_,h=>h
 | .i _ _,_,_,h=>h
 | .s _ _,_,_,h=>h
 | .p0,_,_,h=>h
 | .p b o,v,hp,h=>by
  obtain ⟨g,e,r⟩:=h;exact ⟨g,by rw [←hj b (by simpa [AV.okIn] using hp)]; exact e,r⟩
 | .sl0,_,_,h=>h
 | .sl b o n z,v,hp,h=>by
  rcases h with h | ⟨g,c,e,r⟩
  ·exact .inl h
  ·refine .inr ⟨g,c,?_,r⟩;simp only [AV.okIn,Bool.or_eq_true,Bool.and_eq_true] at hp;rcases hp with hp | ⟨hb,_⟩
   ·rw [←hj b hp]; exact e
   ·obtain rfl:=Nat.eq_of_beq_eq_true hb;rw [h0] at e; cases e
 | .f0,_,_,h=>h
 | .ni,_,_,h=>h
 | .f fn a c,v,hp,h=>by
  simp only [AV.okIn,Bool.and_eq_true] at hp;obtain ⟨va,vc,e,h1,h2⟩:=h;exact ⟨va,vc,e,kR h0 hj a _ hp.1 h1,kR h0 hj c _ hp.2 h2⟩
 | .fi _,_,_,h=>h
 | .fq _,_,_,h=>h
 | .agg l,v,hp,h=>by
  obtain ⟨a,e,h⟩:=h;exact ⟨a,e,kR h0 hj l _ (by simpa [AV.okIn] using hp) h⟩
 | .tup l,v,hp,h=>by
  obtain ⟨a,e,h⟩:=h;exact ⟨a,e,kR h0 hj l _ (by simpa [AV.okIn] using hp) h⟩
theorem kR {p:Nat→Bool} {j1 j2:J} (h0:j1 0=none) (hj:∀ b,p b=true→j1 b=j2 b):∀ (x:List AV) (v:List Value),tI p x=true→RL μ j1 x v→RL μ j2 x v
 | [],_,_,h=>h
 | x::r,l,hp,h=>by
  simp only [tI,Bool.and_eq_true] at hp;obtain ⟨v,t,e,h1,h2⟩:=h;exact ⟨v,t,e,jIc h0 hj x v hp.1 h1,kR h0 hj r t hp.2 h2⟩
end
mutual
theorem qCa {j1:J} {k:Nat} (hk:0<k):∀ (x:AV) (v:Value),x.hasB k=true→RV μ j1 x v→∃ g,j1 k=some g
 | .b _,_,hp,_=>by simp [AV.hasB] at hp
 | .i _ _,_,hp,_=>by simp [AV.hasB] at hp
 | .s _ _,_,hp,_=>by simp [AV.hasB] at hp
 | .p0,_,hp,_=>by simp [AV.hasB] at hp
 | .p b o,v,hp,h=>by
  obtain ⟨g,e,r⟩:=h;obtain rfl:b=k:=Nat.eq_of_beq_eq_true (by simpa [AV.hasB] using hp)
  exact ⟨g,e⟩
 | .sl0,_,hp,_=>by simp [AV.hasB] at hp
 | .sl b o n z,v,hp,h=>by
  obtain rfl:b=k:=Nat.eq_of_beq_eq_true (by simpa [AV.hasB] using hp)
  rcases h with ⟨h,_⟩ | ⟨g,c,e,r⟩
  ·omega
  ·exact ⟨g,e⟩
 | .f0,_,hp,_=>by simp [AV.hasB] at hp
 | .ni,_,hp,_=>by simp [AV.hasB] at hp
 | .f fn a c,v,hp,h=>by
  simp only [AV.hasB,Bool.or_eq_true] at hp;obtain ⟨va,vc,e,h1,h2⟩:=h;rcases hp with hp | hp
  ·exact fW hk a _ hp h1
  ·exact fW hk c _ hp h2
 | .fi _,_,hp,_=>by simp [AV.hasB] at hp
 | .fq _,_,hp,_=>by simp [AV.hasB] at hp
 | .agg l,v,hp,h=>by
  obtain ⟨a,e,h⟩:=h;exact fW hk l _ (by simpa [AV.hasB] using hp) h
 | .tup l,v,hp,h=>by
  obtain ⟨a,e,h⟩:=h;exact fW hk l _ (by simpa [AV.hasB] using hp) h
theorem fW {j1:J} {k:Nat} (hk:0<k):∀ (x:List AV) (v:List Value),tG k x=true→RL μ j1 x v→∃ g,j1 k=some g
 | [],_,hp,_=>by simp [tG] at hp
 | x::r,l,hp,h=>by
  simp only [tG,Bool.or_eq_true] at hp;obtain ⟨v,t,e,h1,h2⟩:=h;rcases hp with hp | hp
  ·exact qCa hk x v hp h1
  ·exact fW hk r t hp h2
end
theorem qSb (hr:Rel μ B w0 j σ w):Rel μ (· < w.heap.size) w (fun b=>if b<500000000 then j b else none) jKo w:=
 ⟨bP.refl _ _,fun _ h=>h,by decide,by decide,fun b blk h=>(by rw [show jKo.t = .e from rfl,Tr.get_e] at h; cases h),fun b b' blk blk' g g' h=>(by rw [show jKo.t = .e from rfl,Tr.get_e] at h; cases h),fun b g h=>(by
  have h':(if b<500000000 then j b else none)=some g:=h
  split at h'
  ·rename_i hlt;have:=hr.dom b g h';exact ⟨this.1,hlt,this.2.2⟩
  ·cases h'),fun b i h=>(by rw [show jKo.it = .e from rfl,Tr.get_e] at h; cases h),fun b b' i i' g g' h=>(by rw [show jKo.it = .e from rfl,Tr.get_e] at h; cases h),fun g o hg=>⟨(Array.getElem?_eq_some_iff.1 (hr.heldW g o hg)).1,hr.heldW g o hg⟩⟩
theorem qGg (hr:Rel μ B w0 j σ w) (ht:RT μ j τ a) {call:yR} (hcall:kU P μ call) {o:Oper} {f:FuncId} {args:Array Operand} {ats:Array TypeId} (ho:o.op = .call ⟨.value (.func f),args,ats⟩)
  {xs:List X} (hxs:jGh args.toList=some xs) {x:AV} (hx:eCq call f (evs τ xs) σ=some (x,σ')):tJ P μ B w0 j o a w x σ':=by
 intro K Q hk;have hl:=nC hxs ht;have j00:j 0=none:=by
  cases e:j 0 with
  | none=>rfl
  | some g=>have:=(hr.dom 0 g e).1; omega
 unfold eCq at hx;split at hx
 ·rename_i hf;unfold jRg at hx;split at hx
  ·rename_i v s hv;split at hx
   ·rename_i hin;cases hx;have hl2:=kR (j2:=fun b=>if b<500000000 then j b else none) j00 (fun b hb=>by
     have hb':b<500000000:=by simpa [Nat.blt_eq] using hb
     simp only [hb',if_true]) _ _ hf hl
    obtain ⟨⟨fn,h1,h2,h3⟩,hc⟩:=hcall f _ jKo _ s hv (· < w.heap.size) w _ w _ (qSb hr) hl2;have e:(args.toList.map a.eval).toArray=args.map a.eval:=by rw [←Array.toList_map,Array.toArray_toList]
    rw [e] at hc;refine iW (R:=fun v w'=>RV μ j x v∧Below w.heap.size w w') ?_ (hc.mono fun e w' ⟨j',v,he,hle,h,hrel⟩=>⟨v,he,jIc (j2:=j) (by
      cases e:j' 0 with
      | none=>rfl
      | some g=>have:=(hrel.dom 0 g e).1; omega) (fun b hb=>by
      simp only [Bool.and_eq_true,Nat.blt_eq] at hb;obtain ⟨g,hg⟩:=fW hb.1 _ _ hb.2 hl2;rw [hle b g hg];have hg':(if b<500000000 then j b else none)=some g:=hg
      split at hg'
      ·exact hg'.symm
      ·cases hg') _ _ hin h,hrel.below.to_below⟩) (fun v w' ⟨a1,a2⟩=>hk j v w' (J.le.refl _) a1 (hr.later a2))
    simp [execOp,ho,resolve,Act.eval,Deferred.ofValue,invoke,fR h1 h2 h3]
   ·cases hx
  ·cases hx
 ·cases hx
theorem jJj (hr:Rel μ B w0 j σ w) (ht:RT μ j τ a) {call:yR} (hcall:kU P μ call) {o:Oper} {p:Operand} {args:Array Operand} {ats:Array TypeId} (ho:o.op = .call ⟨.value p,args,ats⟩)
  {p':X} (hp:xOf p=some p') {xs:List X} (hxs:jGh args.toList=some xs) {x:AV} (hx:eCv call (p'.ev τ) (evs τ xs) σ=some (x,σ')):tJ P μ B w0 j o a w x σ':=by
 intro K Q hk;have hl:=nC hxs ht;have h0:=qM hp ht;unfold eCv at hx;split at hx
 ·rename_i fid l1 l2 he;rw [he] at h0;obtain ⟨va,vc,e1,r1,r2⟩:=h0;obtain ⟨⟨fn,h1,h2,h3⟩,hc⟩:=hcall fid _ σ x σ' hx B w0 j w _ hr ((r1.append hl).append r2);have e:(va.toList++args.toList.map a.eval++vc.toList).toArray=va++args.map a.eval++vc:=by simp
  rw [e] at hc;refine iW (R:=fun v w'=>∃ j',j.le j'∧RV μ j' x v∧Rel μ B w0 j' σ' w') ?_ (hc.mono fun e w' ⟨j',v,he,h⟩=>⟨v,he,j',h⟩) (fun v w' ⟨j',a1,a2,a3⟩=>hk j' v w' a1 a2 a3);simp [execOp,ho,resolve,e1,Deferred.ofValue,invoke,fR h1 h2 h3]
 ·cases hx
theorem iJ (z:List AV):∀ n,(jFa z n).length=n*z.length
 | 0=>by simp [jFa]
 | n+1=>by rw [jFa,List.length_append,iJ z n,Nat.add_mul]; omega
theorem jPc (z:List AV) (hz:0<z.length):∀ (n i:Nat),i<n*z.length→(jFa z n)[i]?=z[i % z.length]?
 | 0,i,h=>by simp at h
 | n+1,i,h=>by
  rw [jFa];by_cases hi:i<z.length
  ·rw [List.getElem?_append_left hi,Nat.mod_eq_of_lt hi]
  ·rw [List.getElem?_append_right (by omega),jPc z hz n (i - z.length) (by rw [Nat.add_mul] at h; omega)]
   congr 1
   rw [←Nat.mod_eq_sub_mod (by omega)]
theorem qIv {z:List AV} {zc:Array Value} (hz:RL μ j z zc.toList) (hp:0<z.length) (n:Nat):RL μ j (jFa z n) ((Array.range (n*z.length)).map (zc[· % zc.size]!)).toList:=by
 have hl:zc.size=z.length:=by simpa using RL.len _ _ hz
 refine RL.of_nth _ _ (by simp [iJ]) fun i x hx=>?_
 have hi:i<n*z.length:=by
  have:=(List.getElem?_eq_some_iff.1 hx).1
  rwa [iJ] at this
 rw [jPc z hp n i hi] at hx;obtain ⟨v,hv,hr⟩:=RL.nth _ _ hz _ _ hx;refine ⟨v,?_,hr⟩;have hm:i % z.length<zc.size:=by rw [hl]; exact Nat.mod_lt _ hp
 have hv':zc[i % z.length]?=some v:=by simpa using hv
 simp only [Array.getElem?_toList,Array.getElem?_map,hl];rw [Array.getElem?_range,if_pos hi];simp only [Option.map_some]
 congr 1
 rw [getElem!_pos zc _ hm];exact (Array.getElem?_eq_some_iff.1 hv').2
theorem qGe (hμ:uQ μ) (hr:Rel μ B w0 j σ w) (ht:RT μ j τ a) {o:Oper} {t len:Nat} {parts:Array (Nat×Operand)} (ho:o.op = .buildSlice t len parts) {e n:Nat} {z:List AV} {ps:List (Nat×Nat×X)}
  (hu:P.underlying t=some (.slice e)) (hn:kF P e=some n) (hz:rF P e=some z) (hs:xL n z=true) (hn0:0<n) (hlim:len*n≤16777216) (hps:mT n parts.toList=some ps) (hlid:len≤maxLen) {x:AV}
  (hx:eBs e n len (kZ τ ps (jFa z len)) σ=some (x,σ')):tJ P μ B w0 j o a w x σ':=by
 unfold eBs at hx;split at hx
 ·rename_i l hl;obtain ⟨zv,hzr,hzl⟩:=jPf (w:=w) (μ:=μ) (j:=j) hz;have hzn:=vB _ _ hs;have hzs:zv.cells.size=n:=by have:=RL.len _ _ hzl; rw [hzn] at this; simpa using this
  obtain ⟨cells,hf,hrl⟩:=jBl hμ (fun i=>some (i*n,n)) ht parts.toList ps (jFa z len) l _ (hZ n _ _ hps) hl (qIv hzl (by omega) len)
  have hmap:(parts.map fun (x:Nat×Operand)=>(x.1,a.eval x.2)).toList=parts.toList.map fun p=>(p.1,a.eval p.2):=by simp
  have hcs:cells.size=len*n:=by
   have h1:=RL.len _ _ hrl;have h2:l.length=(jFa z len).length:=by
    have aux:∀ (ps:List (Nat×Nat×X)) (z l:List AV),kZ τ ps z=some l→l.length=z.length:=by
     intro ps
     induction ps with
     | nil=>intro z l h; simp only [kZ,Option.some.injEq] at h; subst h; rfl
     | cons p r ih=>
      intro z l h;obtain ⟨off,m,y⟩:=p;simp only [kZ] at h;split at h
      ·split at h
       ·rename_i z' hz';rw [ih z' l h,vF hz']
       ·cases h
      ·cases h
    exact aux _ _ _ hl
   rw [h2,iJ,hzn] at h1;simpa using h1
  refine jCa hr hx hrl (V:=.slice (some ⟨w.heap.size,0,none⟩) len len) ?_ (fun b=>.inr ⟨⟨w.heap.size,cells.size⟩,len,by simp [J.upd],rfl,Nat.le_refl _,hlid,by simp [hcs]⟩)
  have hlim':¬ 16777216<len*n:=by omega
  have hfill:Instr.fill (fun i=>some (i*n,n)) ((Array.range (len*n)).map (zv.cells[· % zv.cells.size]!)) (parts.toList.map fun x=>(x.1,a.eval x.2))=some cells:=by
   rw [←hf,hzn]
  have hr0:Array.range 0 = #[]:=rfl;by_cases h0:len*n=0
  ·have hfill':Instr.fill (fun i=>some (i*n,n)) #[] (parts.toList.map fun x=>(x.1,a.eval x.2))=some cells:=by
    rw [←hfill,h0,hr0,Array.map_empty]
   simp only [execOp,ho,Instr.buildSlice,Sem.run_bind,run_underlying hu,Result.andThen_ok,run_sizeOf hn];simp [h0,hr0,hfill',newRow]
  ·simp only [execOp,ho,Instr.buildSlice,Sem.run_bind,run_underlying hu,Result.andThen_ok,run_sizeOf hn];simp [h0,hlim',hzr,newRow,hfill]
 ·cases hx
theorem kP {l:List AV} {s:ByteArray} (h:RL μ j l (s.data.toList.map fun b=>Value.int .u8 b.toNat)):jKm l 0=s.size:=by
 have:=RL.len _ _ h;simp only [List.length_map,Array.length_toList] at this;rw [sA,Nat.add_zero,←this]; rfl
theorem qJh (hr:Rel μ B w0 j σ w) {sz m:Nat} {x:AV} {news:List AV} (h:iS σ sz x=some (m,news)) {v:Value} (hv:RV μ j x v) :
  ∃ A c vs,v = .slice A m c∧jLy w w.heap.size sz A m vs∧RL μ j news vs∧jS news=true:=by
 unfold iS at h;split at h
 ·cases h;exact ⟨none,0,[],hv,jLy.none_,rfl,rfl⟩
 ·rename_i b o n sz';split at h
  ·rename_i hsz;obtain rfl:sz=sz':=by simpa using hsz
   split at h
   ·rename_i hn;obtain rfl:n=0:=by simpa using hn
    cases h;have:∃ A c,v = .slice A 0 c:=by
     rcases hv with ⟨_,_,ad,c,rfl,_⟩ | ⟨g,cap,_,rfl,_⟩<;>exact ⟨_,_,rfl⟩
    obtain ⟨A,c,rfl⟩:=this;exact ⟨A,c,[],rfl,⟨by simp,fun h=>absurd h (by omega)⟩,rfl,rfl⟩
   ·rename_i hn;split at h
    ·rename_i l hl;cases h;rcases hv with ⟨_,e0,_⟩ | ⟨g,cap,hg,rfl,_⟩
     ·subst e0; simp at hn
     ·obtain ⟨vs,hlen,hrl,_,h1,hc⟩:=hr.load hl hg;exact ⟨_,_,vs,rfl,⟨hlen,fun _=>⟨_,rfl,(hr.dom _ _ hg).2.2,hc⟩⟩,hrl,h1⟩
    ·cases h
  ·cases h
 ·cases h
theorem jAm {xs:List Value} {cur:Array Value} {n:Nat} (h:cur.toList.take n=xs) {i:Nat} {v:Value} (hv:xs[i]?=some v):cur[i]?=some v:=by
 rw [←h,List.getElem?_take] at hv;split at hv
 ·simpa using hv
 ·cases hv
theorem qGj (hr:Rel μ B w0 j σ w) (ht:RT μ j τ a) {o:Oper} {p:Operand} {e sz by_ m:Nat} {p':X} (hp:xOf p=some p') {news:List AV} {vs:List Value} (hnews:RL μ j news vs) (hones:jS news=true) (hvl:vs.length=m*sz)
    (hnil:∀ A n cap,a.eval p = .slice A n cap→n≤cap→m=0→(execOp a.eval o).run P w = .ok (.value (.slice A n cap)) w)
    (hex:∀ (V:Value) (n:Nat) (xs:List Value),a.eval p=V→w.ownsRow 0 e sz V n xs→n+m≤100000000000000→(n+m)*by_≤100000000000000→∃ v' w',(execOp a.eval o).run P w = .ok (.value v') w'∧w'.ownsRow 0 e sz v' (n+m) (xs++vs)∧w.grownBy w' V.ownBlock∧(v'.ownBlock=V.ownBlock∨v'.ownBlock=some w.heap.size))
    {x:AV} (hx:jMy e sz by_ m news (p'.ev τ) σ=some (x,σ')):tJ P μ B w0 j o a w x σ':=by
  intro K Q hk;have h0:=qM hp ht;have hvlen:vs.length=news.length:=RL.len _ _ hnews;unfold jMy at hx;split at hx
  · rename_i hm;obtain rfl:m=0:=by simpa using hm
    unfold qPd at hx;split at hx
    · rename_i hs;cases hx;rw [hs] at h0;exact dV (hnil none 0 0 h0 (Nat.le_refl _) rfl) (hk j _ w (J.le.refl _) rfl hr)
    · rename_i b o' n z hs;cases hx;rw [hs] at h0;have key:∃ A cap,a.eval p = .slice A n cap∧n≤cap:=by
        rcases h0 with ⟨_,rfl,A,c,e0,_⟩ | ⟨g,cap,_,e0,hle,_⟩
        · exact ⟨_,_,e0,Nat.zero_le _⟩
        · exact ⟨_,_,e0,hle⟩
      obtain ⟨A,cap,e0,hle⟩:=key;exact dV (hnil A n cap e0 hle rfl) (hk j _ w (J.le.refl _) (by rw [←e0]; exact h0) hr)
    · cases hx
  rename_i hm;split at hx
  · rename_i hs;rw [hs] at h0;have e0:a.eval p = .slice none 0 0:=h0
    · have hm':m≠0:=by simpa using hm
      split at hx
      · rename_i hlim;simp only [Bool.and_eq_true,Nat.ble_eq] at hlim;rw [qI] at hx;obtain ⟨b,hone,hn,rfl⟩:=jKr hx;obtain ⟨v',w',hrun,hown,hgrow,hat⟩:=hex _ 0 [] e0 (World.ownsRow_nil w 0 e sz) (by omega) (by rw [Nat.zero_add]; omega)
        rw [Nat.zero_add,List.nil_append] at hown;rcases hown.2 with ⟨rfl,h0'⟩ | ⟨g',cap,cur,rfl,hBg,hh,hmc,hcap,hcur,htake⟩
        · omega
        · have hg':g'=w.heap.size:=by
            rcases hat with h | h<;>simpa [Value.ownBlock] using h
          subst hg';obtain ⟨rfl,hle,hrel⟩:=hr.add hn cur (0,0) w' w.heap.size w.heap.size hgrow.os hgrow.tape hgrow.output hgrow.size hr.fresh hr.fresh hh
            (fun k hk' _ _=>hgrow.block k hk' (by simp [Value.ownBlock])) (fun b' blk' g hb hg=>by have:=(hr.dom b' g hg).2.2; omega) (fun k o hs _=>by have:=(Array.getElem?_eq_some_iff.1 hs).1; exact ⟨by omega,by omega⟩) (fun _=>rfl) (fun o _=>by simp)
            (by show news.length≤cur.size; rw [←hvlen,hown.1,hcur]; exact Nat.mul_le_mul_right _ hmc) hone
            (fun k y hy'=>by obtain ⟨v,hv,hr'⟩:=RL.nth _ _ hnews k y hy'; exact ⟨v,jAm htake hv,hr'⟩)
          exact dV hrun (hk _ _ _ hle (.inr ⟨⟨w.heap.size,cur.size⟩,cap,by simp [J.upd],rfl,hmc,hcap,by simp [hcur]⟩) hrel)
      · cases hx
  · rename_i b n sz' hs;rw [hs] at h0;split at hx
    · rename_i hlim;simp only [Bool.and_eq_true,Nat.ble_eq,Nat.beq_eq] at hlim;obtain ⟨⟨rfl,hl1⟩,hl2⟩:=hlim;unfold qLa at hx;split at hx
      · rename_i blk hblk;split at hx
        · rename_i hpl;simp only [Bool.and_eq_true,Nat.beq_eq] at hpl;obtain ⟨hplain,rfl⟩:=hpl;split at hx
          · rename_i old hold;rw [qI] at hx;obtain ⟨b',hone,hn,rfl⟩:=jKr hx;obtain ⟨eold,holdlen⟩:=yY _ _ _ hold;have hb0:=hr.lt hblk;rcases h0 with ⟨eb,_⟩ | ⟨g,cap,hg,e0,hncap,hcap,htot⟩
            · omega
            · obtain ⟨g2,cs,fz,hg2,hBg,hh,hcs,hfz,hth,hlen,hall,hcells⟩:=hr.get b blk hblk;rw [hg] at hg2;cases hg2;obtain rfl:=hfz hplain;have hcsz:cs.size=cap*sz:=by rw [hcs,←htot]; omega
              have hnsz:n*sz≤cap*sz:=Nat.mul_le_mul_right _ hncap;have hown0:w.ownsRow 0 blk.elem sz (.slice (some ⟨g.c,0,none⟩) n cap) n (cs.toList.take (n*sz)):=
                ⟨by simp; omega,.inr ⟨g.c,cap,cs,rfl,Nat.zero_le _,hh,hncap,hcap,hcsz,rfl⟩⟩
              obtain ⟨v',w',hrun,hown,hgrow,hat⟩:=hex _ n _ e0 hown0 (by omega) (by omega)
              rcases hown.2 with ⟨rfl,h0'⟩ | ⟨g',cap',cur,rfl,hBg',hh',hmc,hcap',hcur,htake⟩
              · rcases hat with h | h<;>simp [Value.ownBlock] at h
              · have hg':g'=g.c∨g'=w.heap.size:=by
                  rcases hat with h | h
                  · exact .inl (by simpa [Value.ownBlock] using h)
                  · exact .inr (by simpa [Value.ownBlock] using h)
                have hkill:=hr.kill (b:=b) (by have:=hr.lid; omega)
                have hrold:RL μ j old (cs.toList.take (n*sz)):=by
                  rw [eold];refine RL.of_nth _ _ (by simp; omega) fun k y hy'=>?_
                  rw [List.getElem?_take] at hy' ⊢;split at hy'
                  · obtain ⟨v,hv,hr'⟩:=hcells k y hy';exact ⟨v,by rw [if_pos (by assumption)]; simpa using hv,hr'⟩
                  · cases hy'
                obtain ⟨rfl,hle,hrel⟩:=hkill.add hn cur (0,0) w' g' g.c hgrow.os hgrow.tape hgrow.output hgrow.size (by rcases hg' with rfl | rfl; exact hBg; exact hr.fresh) hBg hh'
                  (fun k hk' _ hk2=>hgrow.block k hk' (by simp only [Value.ownBlock,ne_eq,Option.some.injEq]; exact hk2))
                  (fun b2 blk2 g2 hb2 hj2=>by
                    unfold Mem.kill at hb2;rw [Tr.get_set30 _ _ _ _ (by have:=hr.lid; omega)] at hb2
                    by_cases eb:b2=b
                    · rw [if_pos eb] at hb2; cases hb2
                    · rw [if_neg eb] at hb2;have hne:g2.c≠g.c:=fun ec=>eb (hr.inj _ _ _ _ _ _ hb2 hblk hj2 hg ec);refine ⟨?_,hne⟩;rcases hg' with rfl | rfl
                      · exact hne
                      · have:=(hr.dom b2 g2 hj2).2.2; omega)
                  (fun k o hs hnc=>by
                    have hk1:k≠g.c:=by rintro rfl; rw [hh] at hs; cases hs; exact hnc _ _ _ rfl
                    have hk2:=(Array.getElem?_eq_some_iff.1 hs).1;refine ⟨?_,hk1⟩;rcases hg' with rfl | rfl
                    · exact hk1
                    · omega) (fun _=>rfl) (fun o _=>by simp)
                  (by show (old++news).length≤cur.size
                      rw [hcur,List.length_append,←hvlen,hvl];have:old.length=n*sz:=by rw [eold]; simp; omega
                      rw [this,←Nat.add_mul];exact Nat.mul_le_mul_right _ hmc) hone
                  (fun k y hy'=>by obtain ⟨v,hv,hr'⟩:=RL.nth _ _ (hrold.append hnews) k y hy'; exact ⟨v,jAm htake hv,hr'⟩)
                exact dV hrun (hk _ _ _ hle (.inr ⟨⟨g',cur.size⟩,cap',by simp [J.upd,Mem.kill],rfl,hmc,hcap',by simp [hcur]⟩) hrel)
          · cases hx
        · cases hx
      · cases hx
    · cases hx
  · cases hx
theorem qGd (hμ:uQ μ) (hr:Rel μ B w0 j σ w) (ht:RT μ j τ a) {o:Oper} {p y:Operand} {t:TypeId} (ho:o.op = .call ⟨.builtin .append, #[p,y], #[t,t]⟩) {e:Nat} (hu:P.underlying t=some (.slice e)) {i:TypeInfo} (hi:P.info? e=some i)
  {z:List AV} (hz:rF P e=some z) (hzs:xL i.size z=true) (hsz:0<i.size) {p' y':X} (hp:xOf p=some p') (hy:xOf y=some y') {x:AV} (hx:eAp e i.size i.bytes (p'.ev τ) (iS σ i.size (y'.ev τ)) σ=some (x,σ')):tJ P μ B w0 j o a w x σ':=by
 have h1:=qM hy ht;obtain ⟨i',zv,hi',hzv,hzr,_⟩:=jGi (μ:=μ) (j:=j) hz;rw [hi] at hi';cases hi';have hzsz:zv.cells.size=i.size:=by
  have:=RL.len _ _ hzr;rw [vB _ _ hzs] at this;simpa using this
 have hexec:∀ (V:Value) (w':World),(Builtin.append_ #[t,t] o.type #[a.eval p,a.eval y]).run P w = .ok V w'→(execOp a.eval o).run P w = .ok (.value V) w':=by
  intro V w' h;simp [execOp,ho,resolve,invoke,builtin,h]
 unfold eAp at hx;split at hx
 ·cases hx
 ·rename_i m news hsrc;obtain ⟨A,c,vs,e1,hreads,hnews,hones⟩:=qJh hr hsrc h1;refine qGj hr ht hp hnews hones hreads.1 (fun A' n' cap' e0 hle hm=>hexec (.slice A' n' cap') w ?_) (fun V n xs e0 hown hl1 hl2=>?_) hx
  ·subst hm;have hf:(Builtin.firstCells i.size 0 (.slice A 0 c)).run P w = .ok #[] w:=by
    cases A with
    | none=>simp [Builtin.firstCells]
    | some ad=>simp [Builtin.firstCells,loadCells,loadCellsFrom]
   cases A'<;>simp [e0,e1,Builtin.append_,run_underlying hu,sizeOf,typeInfo,hi,Builtin.lenOf,hf,hle,storeCells]
  ·obtain ⟨v',w',hrun,h2,h3,h4⟩:=jFf (P:=P) w 0 t o.type e i zv i.size i.bytes hu hi hzv rfl rfl hzsz hsz V n xs hown w.heap.size A m c vs hreads (RL.ones hμ hones hnews)
    (by unfold maxLen; omega) (by omega) (Nat.zero_le _)
   exact ⟨v',w',hexec _ _ (by rw [e0,e1]; exact hrun),h2,h3,h4⟩
end
end
end Go.Proofs.YtdlhiljbhepliaaGreatDoor.Ev
