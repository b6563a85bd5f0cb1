/-
Each pure operation of the small language is the model's operation. No program is named here.
-/
import Derived.Test.YtdlhiljbhepliaaGreatDoorEvD
import Derived.Laws.BytesString
import Derived.Lib.Builder
import Derived.Lib.Bytealg
import Derived.Laws.StructEq
import Derived.MapKept
set_option linter.all false
namespace Go.Proofs.YtdlhiljbhepliaaGreatDoor.Ev
noncomputable section
open Go Go.RowKit
section
variable {P:Program} {μ:Mu} {B:Nat→Prop} {w0 w:World} {j:J} {σ:Mem} {τ:T} {a:Act}
theorem jEq (fs:List Field) (place:Nat→Option (Nat×Nat)) (hp:∀ (i:Nat) (f:Field) (n:Nat),fs[i]?=some f→kF P f.type=some n→place i=some (f.offset,n)) :
  ∀ (l:List (Nat×Operand)) (ps:List (Nat×Nat×X)),iG P fs l=some ps→jGv place l ps
 | [],ps,h=>by cases h; exact .nil
 | (i,x)::r,ps,h=>by
  simp only [iG] at h;split at h
  ·rename_i f hf;split at h
   ·rename_i n y ps' h1 h2 h3;cases h;exact .cons (hp i f n hf h1) h2 (jEq fs place hp r ps' h3)
   ·cases h
  ·cases h
theorem hZ (sz:Nat):∀ (l:List (Nat×Operand)) (ps:List (Nat×Nat×X)),mT sz l=some ps→jGv (fun i=>some (i*sz,sz)) l ps
 | [],ps,h=>by cases h; exact .nil
 | (i,x)::r,ps,h=>by
  simp only [mT] at h;split at h
  ·rename_i y ps' h2 h3;cases h;exact .cons rfl h2 (hZ sz r ps' h3)
  ·cases h
theorem jFm:∀ (fs:List Field),iR P fs=true→∃ places:List (Nat×Nat),fs.mapM (fun f=>(P.info? f.type).map fun i=>(f.offset,i.size))=some places ∧
  ∀ (i:Nat) (f:Field) (n:Nat),fs[i]?=some f→kF P f.type=some n→places[i]?=some (f.offset,n)
 | [],_=>⟨[],rfl,fun i f n h=>by simp at h⟩
 | f::fs,h=>by
  simp only [iR,List.all_cons,Bool.and_eq_true] at h;obtain ⟨n,hn⟩:=Option.isSome_iff_exists.1 h.1;obtain ⟨i,hi,rfl⟩:=iQ hn;obtain ⟨pl,hm,hg⟩:=jFm fs (by simpa [iR] using h.2)
  refine ⟨(f.offset,i.size)::pl,?_,?_⟩
  ·simp [List.mapM_cons,hi,hm]
  ·intro k g m hk hs;cases k with
   | zero=>
    simp at hk;subst hk;obtain ⟨i',hi',rfl⟩:=iQ hs;rw [hi] at hi';cases hi';rfl
   | succ k=>simpa using hg k g m (by simpa using hk) hs
theorem jMm (hμ:uQ μ) (ht:RT μ j τ a) {t:TypeId} {z l:List AV} {parts:Array (Nat×Operand)} {ps:List (Nat×Nat×X)} (hz:rF P t=some z)
  (hp:(∃ fs:Array Field,P.underlying t=some (.struct fs)∧iR P fs.toList=true∧iG P fs.toList parts.toList=some ps)∨(∃ k e n,P.underlying t=some (.array k e)∧kF P e=some n∧mT n parts.toList=some ps))
  (hl:kZ τ ps z=some l):∃ cells:Array Value,(Instr.build t (parts.map fun (i,x)=>(i,a.eval x))).run P w = .ok (.agg cells) w∧RL μ j l cells.toList:=by
 obtain ⟨it,zv,hit,hzv,hzr,_⟩:=jGi (μ:=μ) (j:=j) hz;have hmap:(parts.map fun (x:Nat×Operand)=>(x.1,a.eval x.2)).toList=parts.toList.map fun p=>(p.1,a.eval p.2):=by simp
 rcases hp with ⟨fs,hu,hs,hpl⟩ | ⟨k,e,n,hu,hn,hpl⟩
 ·obtain ⟨places,hm,hg⟩:=jFm fs.toList hs;have hparts:=jEq fs.toList (places[·]?) (fun i f n h1 h2=>hg i f n h1 h2) _ _ hpl;obtain ⟨cells,hf,hr⟩:=jBl hμ _ ht _ _ _ _ zv.cells hparts hl hzr;refine ⟨cells,run_build w t _ cells ?_,hr⟩;simp only [Program.built,hit,hu,hzv,hm];rw [hmap];simpa using hf
 ·obtain ⟨ie,hie,rfl⟩:=iQ hn;have hparts:=hZ ie.size _ _ hpl;obtain ⟨cells,hf,hr⟩:=jBl hμ _ ht _ _ _ _ zv.cells hparts hl hzr;refine ⟨cells,run_build w t _ cells ?_,hr⟩;simp only [Program.built,hit,hu,hzv,hie];rw [hmap];exact hf
theorem mD {len cap:Nat} {lo hi:Option X} {l h:Nat} (hb:fE len (X.evO τ lo) (X.evO τ hi)=some (l,h)) (hc:len≤cap) (ht:RT μ j τ a) {plo phi:Option Operand} (hlo:jZt plo=some lo) (hhi:jZt phi=some hi) (g:Bool) :
  (Instr.sliceBounds g len cap (plo.map a.eval) (phi.map a.eval) none).run P w = .ok (l,h,cap) w∧l≤h∧h≤len:=by
 have val:∀ (p:Option Operand) (x:Option X),jZt p=some x→(p=none∧x=none)∨∃ q y,p=some q∧x=some y∧RV μ j (y.ev τ) (a.eval q):=by
  intro p x e;cases p with
  | none=>cases e; exact .inl ⟨rfl,rfl⟩
  | some q=>
   simp only [jZt] at e;split at e
   ·rename_i y hy;cases e;exact .inr ⟨q,y,rfl,rfl,qM hy ht⟩
   ·cases e
 unfold fE at hb;split at hb
 ·cases hb
 ·rename_i h' hh;split at hb
  ·cases hb
  ·rename_i l' hl;split at hb
   ·rename_i hle;simp only [Option.some.injEq,Prod.mk.injEq] at hb;obtain ⟨rfl,rfl⟩:=hb;simp only [Bool.and_eq_true,Nat.ble_eq] at hle;refine ⟨?_,hle.1,hle.2⟩;rcases val phi hi hhi with ⟨rfl,rfl⟩ | ⟨q,y,rfl,rfl,hv⟩<;>rcases val plo lo hlo with ⟨rfl,rfl⟩ | ⟨q',y',rfl,rfl,hv'⟩
    ·simp only [X.evO,Option.some.injEq] at hh hl;subst hh; subst hl;simp [Instr.sliceBounds]
    ·simp only [X.evO,Option.some.injEq] at hh hl;subst hh;obtain ⟨k,hk⟩:=tL hl hv';simp [Instr.sliceBounds,Instr.sliceBound,hk,asIntOf,hle.1]
    ·simp only [X.evO,Option.some.injEq] at hh hl;subst hl;obtain ⟨k,hk⟩:=tL hh hv;have:h'≤cap:=by omega
     simp [Instr.sliceBounds,Instr.sliceBound,hk,asIntOf,this]
    ·simp only [X.evO] at hh hl;obtain ⟨k,hk⟩:=tL hh hv;obtain ⟨k',hk'⟩:=tL hl hv';have:h'≤cap:=by omega
     simp [Instr.sliceBounds,Instr.sliceBound,hk,hk',asIntOf,this,hle.1]
   ·cases hb
theorem qLh {l:List AV} {cs:Array Value} (h:RL μ j l cs.toList) {n:Nat} {x:AV} (hx:l[n]?=some x):∃ v,cs[n]?=some v∧RV μ j x v:=by
 obtain ⟨v,hv,hr⟩:=RL.nth _ _ h n x hx;exact ⟨v,by simpa using hv,hr⟩
theorem jIl:∀ (bs:List UInt8) (r:ByteArray),((bs.map fun b=>(b.toNat:Int)).foldl (fun (r:ByteArray) (n:Int)=>r.push (UInt8.ofNat n.toNat)) r).data.toList=r.data.toList++bs
 | [],r=>by simp
 | b::bs,r=>by
  simp only [List.map_cons,List.foldl_cons];rw [jIl bs];simp
theorem mW (ad:Addr) (bs:List UInt8) (cap:Nat) (h:∀ (i:Nat) (v:Value),(bs.map fun b=>Value.int .u8 b.toNat)[i]?=some v→w.cell? (ad.add i)=some v) :
  ∃ s:ByteArray,(Conv.bytesToString (.slice (some ad) bs.length cap)).run P w = .ok (.string s) w∧s.data.toList=bs:=by
 have h1:=run_loadCells_list (P:=P) w ad (bs.map fun b=>Value.int .u8 b.toNat) h;rw [List.length_map] at h1;refine ⟨_,run_bytesToString w ad bs.length cap (bs.map fun b=>(b.toNat:Int)) (by rw [h1]; congr 1; simp [Function.comp_def]),?_⟩
 rw [jIl];rfl
theorem qKc (hr:Rel μ B w0 j σ w) (ht:RT μ j τ a) {o:Oper} {g:Bool} {op:BinOp} {t yt:TypeId} {y z:Operand} (ho:o.op = .binOp op t y z yt) (eo:op=if g then .neq else .eql) {y' z':X} (hy:xOf y=some y') (hz:xOf z=some z') {c:C} {x:AV}
  (hc:jXx P g op t y' z'=some c) (hx:qL c τ σ=some x):jZu P μ j o a w x:=by
 have h1:=qM hy ht;have h2:=qM hz ht;have fin:∀ (u v:Value) (r:Bool),a.eval y=u→a.eval z=v→(∀ op,(eqGuard op t y z u v).run P w = .ok () w)→(∀ op,binOp op t u v=if op = .neq∨op = .eql then (do let b ←Op.equal t u v; pure (.bool (if op = .neq then !b else b))) else binOp op t u v) →
   (Op.equal t u v).run P w = .ok r w→x = .b (if g then !r else r)→jZu P μ j o a w x:=by
  intro u v r e1 e2 hg hb he ex;subst ex;refine qV (s:=do eqGuard op t y z (a.eval y) (a.eval z); binOp op t (a.eval y) (a.eval z)) (v:=.bool (if g then !r else r)) (by simp only [execOp,ho]) ?_ rfl
  rw [e1,e2];simp only [Sem.run_bind,hg,Result.andThen_ok];rw [hb op];subst eo;cases g<;>simp [he]
 unfold jXx at hc;split at hc
 ·rename_i hu;cases hc;simp only [qL,xBe] at hx;split at hx<;>cases hx;rename_i p q hp hq;rw [hp] at h1;rw [hq] at h2;refine fin (.bool p) (.bool q) (p==q) h1 h2 (fun op=>tT (by simp) (by simp)) (fun op=>by cases op<;>rfl) (qLe hu p q) rfl
 ·cases hc
 ·cases hc
 ·cases hc
 ·cases hc
 ·cases hc;obtain ⟨r,h3,h4⟩:=jTv (P:=P) (w:=w) hx t h1 h2 y z;exact qV (s:=do eqGuard op t y z (a.eval y) (a.eval z); binOp op t (a.eval y) (a.eval z)) (by simp only [execOp,ho]) h3 h4
theorem qDp (hμ:uQ μ) (hr:Rel μ B w0 j σ w) (ht:RT μ j τ a) {o:Oper} {c:C} {x:AV} (hc:yH P o=some c) (hx:qL c τ σ=some x):jZu P μ j o a w x:=by
 cases ho:o.op
 case move y=>
  simp only [yH,ho] at hc;split at hc<;>cases hc;rename_i y' hy;simp only [qL,Option.some.injEq] at hx; subst hx;exact ⟨_,by simp [execOp,ho],qM hy ht⟩
 case assign y=>
  simp only [yH,ho] at hc;split at hc<;>cases hc;rename_i y' hy;simp only [qL,Option.some.injEq] at hx; subst hx;exact ⟨_,by simp [execOp,ho],qM hy ht⟩
 case pick p q r=>
  simp only [yH,ho] at hc;split at hc<;>cases hc;rename_i p' q' r' hp hq hr';have h1:=qM hp ht;simp only [qL,vC,xBd,xLd,xNc,xBe,xCi,xBt,pU,xSs,pW,xSl,pV,xFa,xIa,xIx,xEx,xLn,xMx,xMn] at hx;split at hx<;>first | (cases hx; done) | skip
  ·rename_i hb;rw [hb] at h1;cases hx;exact ⟨_,by simp [execOp,ho,show a.eval p = .bool true from h1,asBool],qM hq ht⟩
  ·rename_i hb;rw [hb] at h1;cases hx;exact ⟨_,by simp [execOp,ho,show a.eval p = .bool false from h1,asBool],qM hr' ht⟩
 case alloc e=>
  simp only [yH,ho] at hc;split at hc<;>cases hc;cases hx
 case box e y=>
  simp only [yH,ho] at hc;split at hc<;>cases hc;cases hx
 case build t ps=>
  simp only [yH,ho] at hc;split at hc
  ·rename_i z fs hz hu;split at hc
   ·rename_i hs;split at hc<;>cases hc;rename_i ps' hps;simp only [qL,vC,xBd,xLd,xNc,xBe,xCi,xBt,pU,xSs,pW,xSl,pV,xFa,xIa,xIx,xEx,xLn,xMx,xMn] at hx;split at hx<;>cases hx;rename_i l hl;obtain ⟨cells,h1,h2⟩:=jMm (w:=w) hμ ht hz (.inl ⟨_,hu,hs,hps⟩) hl;exact qV (s:=Instr.build t (ps.map fun (i,x)=>(i,a.eval x))) (by simp only [execOp,ho]) h1 ⟨_,rfl,h2⟩
   ·cases hc
  ·rename_i z k e hz hu;split at hc
   ·rename_i n hn;split at hc<;>cases hc;rename_i ps' hps;simp only [qL,vC,xBd,xLd,xNc,xBe,xCi,xBt,pU,xSs,pW,xSl,pV,xFa,xIa,xIx,xEx,xLn,xMx,xMn] at hx;split at hx<;>cases hx;rename_i l hl;obtain ⟨cells,h1,h2⟩:=jMm (w:=w) hμ ht hz (.inr ⟨_,_,_,hu,hn,hps⟩) hl;exact qV (s:=Instr.build t (ps.map fun (i,x)=>(i,a.eval x))) (by simp only [execOp,ho]) h1 ⟨_,rfl,h2⟩
   ·cases hc
  ·cases hc
 case buildSlice t n ps=>
  simp only [yH,ho] at hc
  (repeat' split at hc)<;>first | (cases hc; cases hx; done) | (cases hc; done)
 case load t y=>
  simp only [yH,ho] at hc;split at hc<;>cases hc;rename_i n y' hn hy;have h1:=qM hy ht;simp only [qL,vC,xBd,xLd,xNc,xBe,xCi,xBt,pU,xSs,pW,xSl,pV,xFa,xIa,xIx,xEx,xLn,xMx,xMn] at hx;split at hx<;>first | (cases hx; done) | skip
  ·rename_i b off hb;rw [hb] at h1;obtain ⟨g,hg,he⟩:=h1;obtain ⟨v,hv,hrv⟩:=jAs (P:=P) hr hn hg hx;exact qV (s:=Instr.loadAt t (a.eval y)) (by simp only [execOp,ho]) (by simp [Instr.loadAt,Instr.sureAddr,he,hv]) hrv
  ·rename_i z hb;rw [hb] at h1;obtain ⟨bk,of,cs,e,fz,he,hh,hc⟩:=h1;split at hx<;>cases hx;have hw:=hr.heldW _ _ hh;have hcell:w.cell? ⟨bk,of,none⟩=some (.int .i64 z):=by simp [World.cell?,hw,hc]
   rcases lF hn with ⟨k,e2,_⟩ | ⟨_,ha⟩
   ·cases e2
   ·exact qV (s:=Instr.loadAt t (a.eval y)) (by simp only [execOp,ho]) (v:=.int .i64 z) (by simp [Instr.loadAt,Instr.sureAddr,he,loadVar,sI ha,hcell]) rfl
 case store t y z=>
  simp only [yH,ho] at hc;split at hc<;>cases hc;cases hx
 case nilCheck y=>
  simp only [yH,ho] at hc;split at hc<;>cases hc;rename_i y' hy;have h1:=qM hy ht;simp only [qL,vC,xBd,xLd,xNc,xBe,xCi,xBt,pU,xSs,pW,xSl,pV,xFa,xIa,xIx,xEx,xLn,xMx,xMn] at hx;split at hx<;>cases hx
  ·rename_i b off hb;rw [hb] at h1;obtain ⟨g,hg,he⟩:=h1;exact ⟨_,by simp [execOp,ho,he],g,hg,rfl⟩
  ·rename_i f l1 l2 hb;rw [hb] at h1;obtain ⟨va,vc,he,h2,h3⟩:=h1;exact ⟨.func (.func f) va vc,by simp [execOp,ho,he],va,vc,rfl,h2,h3⟩
 case binOp op t y z yt=>
  simp only [yH,ho] at hc;split at hc
  ·rename_i y' z' hy hz;have h1:=qM hy ht;have h2:=qM hz ht;have plain:c = .bi op y' z'→jZu P μ j o a w x:=by
    intro e;subst e;simp only [qL,vC,xBd,xLd,xNc,xBe,xCi,xBt,pU,xSs,pW,xSl,pV,xFa,xIa,xIx,xEx,xLn,xMx,xMn] at hx;obtain ⟨r,h3,h4⟩:=jTv (P:=P) (w:=w) hx t h1 h2 y z;exact qV (s:=do eqGuard op t y z (a.eval y) (a.eval z); binOp op t (a.eval y) (a.eval z)) (by simp only [execOp,ho]) h3 h4
   split at hc
   ·exact qKc hr ht ho (g:=false) rfl hy hz hc hx
   ·exact qKc hr ht ho (g:=true) rfl hy hz hc hx
   ·simp only [Option.some.injEq] at hc;exact plain hc.symm
  ·cases hc
 case unOp op t y=>
  simp only [yH,ho] at hc;split at hc<;>cases hc;rename_i y' hy;have h1:=qM hy ht;simp only [qL,vC,xBd,xLd,xNc,xBe,xCi,xBt,pU,xSs,pW,xSl,pV,xFa,xIa,xIx,xEx,xLn,xMx,xMn,unA] at hx;split at hx
  ·rename_i k n he;rw [he] at h1;simp only [wA,Option.some.injEq] at hx; subst hx;exact qV (s:=Op.unary .neg (a.eval y)) (by simp only [execOp,ho]) (v:=.int k (k.wrap (0 - n))) (by simp [show a.eval y = .int k n from h1,Op.unary,Op.intArith]) rfl
  ·rename_i b he;rw [he] at h1;cases hx;exact qV (s:=Op.unary .not (a.eval y)) (by simp only [execOp,ho]) (v:=.bool (!b)) (by simp [show a.eval y = .bool b from h1,Op.unary]) rfl
  ·rename_i k n he;rw [he] at h1;simp only [sZ,wA,Option.some.injEq] at hx; subst hx;refine qV (s:=Op.unary .xor (a.eval y)) (by simp only [execOp,ho]) (v:=.int k (k.wrap (Int.ofNat (BitVec.ofInt k.bits (if k.signed then -1 else k.max) ^^^ BitVec.ofInt k.bits n).toNat))) ?_ rfl
   rw [show a.eval y = .int k n from h1];simp only [Op.unary,Op.intBits];exact Sem.run_pure P w _
  ·cases hx
 case convert src dst y=>
  simp only [yH,ho] at hc;split at hc
  ·rename_i k1 k y' hs hd hy;cases hc;have h1:=qM hy ht;simp only [qL,vC,xBd,xLd,xNc,xBe,xCi,xBt,pU,xSs,pW,xSl,pV,xFa,xIa,xIx,xEx,xLn,xMx,xMn] at hx;split at hx<;>first | (cases hx; done) | skip
   rename_i k2 n he;rw [he] at h1;simp only [wA,Option.some.injEq] at hx; subst hx;exact qV (s:=convert src dst (a.eval y)) (by simp only [execOp,ho]) (v:=.int k (k.wrap n)) (by simp [show a.eval y = .int k2 n from h1,convert,run_underlying hs,run_underlying hd,Conv.intToInt]) rfl
  ·rename_i e y' hs hd hy;split at hc<;>cases hc;rename_i hue;have h1:=qM hy ht;simp only [qL,vC,xBd,xLd,xNc,xBe,xCi,xBt,pU,xSs,pW,xSl,pV,xFa,xIa,xIx,xEx,xLn,xMx,xMn] at hx;split at hx
   ·rename_i he;rw [he] at h1;cases hx;exact qV (s:=convert src dst (a.eval y)) (by simp only [execOp,ho]) (v:=.string .empty) (by simp [show a.eval y = .slice none 0 0 from h1,convert,run_underlying hs,run_underlying hd,run_underlying hue,Conv.bytesToString]) ⟨_,rfl,rfl,rfl⟩
   ·rename_i b off n sz he;rw [he] at h1;split at hx
    ·rename_i hn;have hn':n=0:=by simpa using hn
     subst hn';cases hx;rcases h1 with ⟨_,_,ad,cap,e1,_⟩ | ⟨g,cap,_,e1,_⟩
     ·exact qV (s:=convert src dst (a.eval y)) (by simp only [execOp,ho]) (v:=.string .empty) (by simp [e1,convert,run_underlying hs,run_underlying hd,run_underlying hue,Conv.bytesToString,loadCells,loadCellsFrom]) ⟨_,rfl,rfl,rfl⟩
     ·exact qV (s:=convert src dst (a.eval y)) (by simp only [execOp,ho]) (v:=.string .empty) (by simp [e1,convert,run_underlying hs,run_underlying hd,run_underlying hue,Conv.bytesToString,loadCells,loadCellsFrom]) ⟨_,rfl,rfl,rfl⟩
    ·rename_i hn;split at hx
     ·rename_i hsz;split at hx
      ·rename_i l hl;split at hx
       ·rename_i r hrb;cases hx;rcases h1 with ⟨_,e0,_⟩ | ⟨g,cap,hg,e1,_⟩
        ·subst e0; simp at hn
        ·obtain ⟨vs,hlen,hrl,_,_,hcell⟩:=hr.load hl hg;obtain ⟨bs,e2,e3⟩:=jHd hrb hrl;obtain ⟨s,hrun,hsb⟩:=mW (P:=P) (w:=w) ⟨g.c,off,none⟩ bs cap (by rw [←e2]; exact hcell)
         have hbl:bs.length=n:=by rw [←hlen,e2]; simp
         rw [hbl] at hrun;exact qV (s:=convert src dst (a.eval y)) (by simp only [execOp,ho]) (v:=.string s) (by simp [e1,convert,run_underlying hs,run_underlying hd,run_underlying hue,hrun]) ⟨_,rfl,by rw [←hbl,←hsb]; simp,by rw [hsb]; exact e3⟩
       ·cases hx
      ·cases hx
     ·cases hx
   ·cases hx
  ·cases hc
 case makeFunc fn f1 f2=>
  cases fn with
  | func fid=>
   simp only [yH,ho] at hc;split at hc<;>cases hc;rename_i l1 l2 h1 h2;simp only [qL,Option.some.injEq] at hx; subst hx;exact qV (s:=Instr.makeFunc (.func fid) (f1.map a.eval) (f2.map a.eval)) (v:=.func (.func fid) (f1.map a.eval) (f2.map a.eval)) (by simp only [execOp,ho]) (by simp [Instr.makeFunc]) ⟨_,_,rfl,by simpa using nC h1 ht,by simpa using nC h2 ht⟩
  | _=>simp only [yH,ho] at hc; cases hc
 case slice t y lo hi mx=>
  cases mx with
  | some m=>simp only [yH,ho] at hc; cases hc
  | none=>
   simp only [yH,ho] at hc;split at hc
   ·rename_i y' lo' hi' hu hy hlo hhi;cases hc;have h1:=qM hy ht;simp only [qL,vC,xBd,xLd,xNc,xBe,xCi,xBt,pU,xSs,pW,xSl,pV,xFa,xIa,xIx,xEx,xLn,xMx,xMn] at hx;split at hx<;>first | (cases hx; done) | skip
    rename_i n v he;rw [he] at h1;obtain ⟨s,e1,e2,e3⟩:=h1;split at hx<;>first | (cases hx; done) | skip
    rename_i p q hb;rw [nY] at hx;cases hx;obtain ⟨hrun,hle,hle2⟩:=mD (P:=P) (w:=w) (len:=n) (cap:=s.size) hb (by omega) ht hlo hhi false
    rw [←e2] at hrun hle2;refine qV (s:=Instr.sliceAt t (a.eval y) (lo.map a.eval) (hi.map a.eval) (Option.map a.eval none)) (by simp only [execOp,ho]) (v:=.string (s.extract p q)) ?_ ⟨_,rfl,?_,?_⟩
    ·simp [Instr.sliceAt,Instr.slice,run_underlying hu,e1,hrun]
    ·show _=q - p;simp; omega
    ·have:(s.extract p q).data.toList=(s.data.toList.drop p).take (q - p):=by
      simp [ByteArray.data_extract,List.extract_eq_take_drop]
     rw [this,jXw,jHi,e3];rfl
   ·rename_i e y' lo' hi' hu hy hlo hhi;split at hc<;>cases hc;rename_i n hn;have h1:=qM hy ht;simp only [qL,vC,xBd,xLd,xNc,xBe,xCi,xBt,pU,xSs,pW,xSl,pV,xFa,xIa,xIx,xEx,xLn,xMx,xMn,qI] at hx;split at hx
    ·rename_i he;rw [he] at h1;have e1:a.eval y = .slice none 0 0:=h1;split at hx<;>cases hx;rename_i p hb;obtain ⟨hrun,hle,hle2⟩:=mD (P:=P) (w:=w) (len:=0) (cap:=0) hb (by omega) ht hlo hhi true
     refine qV (s:=Instr.sliceAt t (a.eval y) (lo.map a.eval) (hi.map a.eval) (Option.map a.eval none)) (by simp only [execOp,ho]) (v:=.slice none 0 0) ?_ rfl
     have e0:p.1=0:=by omega
     have e00:p.2=0:=by omega
     simp [Instr.sliceAt,Instr.slice,run_underlying hu,e1,hrun,run_sizeOf hn,e0,e00]
    ·rename_i b off len sz he;rw [he] at h1;split at hx<;>first | (cases hx; done) | skip
     rename_i hsz;obtain rfl:n=sz:=by simpa using hsz
     split at hx<;>first | (cases hx; done) | skip
     rename_i p q hb;rcases h1 with ⟨e0,e00,ad,cap,e1,hcap⟩ | ⟨g,cap,hg,e1,hlen,hcap,htot⟩
     ·subst e00;obtain ⟨hrun,hle,hle2⟩:=mD (P:=P) (w:=w) (len:=0) (cap:=cap) hb (by omega) ht hlo hhi true
      obtain rfl:p=0:=by omega
      obtain rfl:q=0:=by omega
      simp only [Nat.beq_refl,if_true,Option.some.injEq] at hx; subst hx;subst e0;refine qV (s:=Instr.sliceAt t (a.eval y) (lo.map a.eval) (hi.map a.eval) (Option.map a.eval none)) (by simp only [execOp,ho]) (v:=.slice (if cap=0 then some ad else some (ad.add (0*n))) (0 - 0) (cap - 0)) ?_ (.inl ⟨rfl,rfl,if cap=0 then ad else ad.add (0*n),cap,by split<;>simp,hcap⟩)
      simp [Instr.sliceAt,Instr.slice,run_underlying hu,e1,hrun,run_sizeOf hn]
     ·obtain ⟨hrun,hle,hle2⟩:=mD (P:=P) (w:=w) (len:=len) (cap:=cap) hb hlen ht hlo hhi true;refine qV (s:=Instr.sliceAt t (a.eval y) (lo.map a.eval) (hi.map a.eval) (Option.map a.eval none)) (by simp only [execOp,ho]) (v:=.slice (if cap=p then some ⟨g.c,off,none⟩ else some ((⟨g.c,off,none⟩:Addr).add (p*n))) (q - p) (cap - p)) ?_ ?_
      ·simp [Instr.sliceAt,Instr.slice,run_underlying hu,e1,hrun,run_sizeOf hn]
      ·split at hx
       ·rename_i hpq;obtain rfl:p=q:=by simpa using hpq
        split at hx
        ·rename_i hp0;obtain rfl:p=0:=by simpa using hp0
         cases hx;refine .inr ⟨g,cap,hg,?_,by omega,by omega,htot⟩
         rw [mA];simp
        cases hx;refine .inl ⟨rfl,rfl,(if cap=p then ⟨g.c,off,none⟩ else ((⟨g.c,off,none⟩:Addr).add (p*n))),cap - p,?_,by omega⟩
        rw [Nat.sub_self];split<;>rfl
       ·rename_i hpq;have hpq':p≠q:=by simpa using hpq
        cases hx;refine .inr ⟨g,cap - p,hg,?_,by omega,by omega,?_⟩
        ·rw [if_neg (by omega),mA]
        ·rw [←htot,Nat.sub_mul];have:p*n≤cap*n:=Nat.mul_le_mul_right _ (by omega)
         omega
    ·cases hx
   ·cases hc
 case fieldAddr t y f=>
  simp only [yH,ho] at hc;split at hc
  ·rename_i fs y' hu hy;split at hc<;>first | (cases hc; done) | skip
   rename_i fd hf;split at hc<;>first | (cases hc; done) | skip
   rename_i n hn;split at hc<;>cases hc;rename_i hnz;have hnz':n≠0:=by simpa using hnz
   have h1:=qM hy ht;simp only [qL,vC,xBd,xLd,xNc,xBe,xCi,xBt,pU,xSs,pW,xSl,pV,xFa,xIa,xIx,xEx,xLn,xMx,xMn,qI] at hx;split at hx<;>cases hx;rename_i b off hb;rw [hb] at h1;obtain ⟨g,hg,he⟩:=h1;exact qV (s:=Instr.fieldAt t (a.eval y) f) (by simp only [execOp,ho]) (v:=.pointer (some ⟨g.c,off+fd.offset,none⟩)) (by simp [Instr.fieldAt,run_underlying hu,hf,he,Instr.sureAddr,fieldPlace,run_sizeOf hn,hnz',mA]) ⟨g,hg,rfl⟩
  ·cases hc
 case indexAddr t y i=>
  simp only [yH,ho] at hc;split at hc
  ·rename_i e y' i' hu hy hi;split at hc<;>cases hc;rename_i n hn;have h1:=qM hy ht;have h2:=qM hi ht;simp only [qL,vC,xBd,xLd,xNc,xBe,xCi,xBt,pU,xSs,pW,xSl,pV,xFa,xIa,xIx,xEx,xLn,xMx,xMn,qI] at hx;split at hx<;>first | (cases hx; done) | skip
   rotate_left
   ·rename_i l k hl hk;rw [hl] at h1;obtain ⟨kd,e2⟩:=tL hk h2;split at hx<;>first | (cases hx; done) | skip
    rename_i hz1;have hz1:n=1:=Nat.eq_of_beq_eq_true hz1;subst hz1;split at hx<;>cases hx;rename_i z hz;rw [iD] at hz;have hlt':k<l.length:=(List.getElem?_eq_some_iff.1 hz).1;obtain ⟨a0,c,e1,hA⟩:=h1;obtain ⟨bk,of,cs,e,fz,ea,hh,hc⟩:=hA (by intro q; subst q; simp at hlt')
    subst ea;exact qV (s:=Instr.indexAt t (a.eval y) (a.eval i)) (by simp only [execOp,ho]) (v:=.pointer (some ⟨bk,of+k*1,none⟩)) (by simp [Instr.indexAt,e1,e2,asIntOf,run_underlying hu,hlt',run_sizeOf hn,mA]) ⟨bk,of+k*1,cs,e,fz,rfl,hh,by rw [Nat.mul_one]; exact hc k z hz⟩
   rename_i b off len sz k hl hk;rw [hl] at h1;obtain ⟨kd,e2⟩:=tL hk h2;split at hx<;>cases hx;rename_i hlt;have hlt':k<len:=by simpa using hlt
   rcases h1 with ⟨_,e00,_⟩ | ⟨g,cap,hg,e1,_⟩
   ·omega
   ·exact qV (s:=Instr.indexAt t (a.eval y) (a.eval i)) (by simp only [execOp,ho]) (v:=.pointer (some ⟨g.c,off+k*n,none⟩)) (by simp [Instr.indexAt,e1,e2,asIntOf,run_underlying hu,hlt',run_sizeOf hn,mA]) ⟨g,hg,rfl⟩
  ·cases hc
 case index t y i=>
  simp only [yH,ho] at hc;split at hc
  ·rename_i y' i' hu hy hi;cases hc;have h1:=qM hy ht;have h2:=qM hi ht;simp only [qL,vC,xBd,xLd,xNc,xBe,xCi,xBt,pU,xSs,pW,xSl,pV,xFa,xIa,xIx,xEx,xLn,xMx,xMn,qI] at hx;split at hx<;>first | (cases hx; done) | skip
   rename_i n v k hl hk;rw [hl] at h1;obtain ⟨s,e1,e3,e4⟩:=h1;obtain ⟨kd,e2⟩:=tL hk h2;split at hx<;>cases hx;rename_i hlt;have hk':k<s.size:=by rw [e3]; simpa using hlt
   have hb':s[k]?=some s[k]:=getElem?_pos s k hk';have hbl:s.data.toList[k]?=some s[k]:=by
    rw [List.getElem?_eq_getElem (by simpa using hk')]; rfl
   refine qV (s:=Instr.index t (a.eval y) (a.eval i)) (by simp only [execOp,ho]) (v:=.int .u8 s[k].toNat) (by simp [Instr.index,e1,e2,asIntOf,run_underlying hu,hb']) ?_
   show _=_;rw [←jNa hbl,e4];rfl
  ·cases hc
 case extract y i=>
  simp only [yH,ho] at hc;split at hc<;>cases hc;rename_i y' hy;have h1:=qM hy ht;simp only [qL,vC,xBd,xLd,xNc,xBe,xCi,xBt,pU,xSs,pW,xSl,pV,xFa,xIa,xIx,xEx,xLn,xMx,xMn,iD] at hx;split at hx<;>first | (cases hx; done) | skip
  rename_i l hl;rw [hl] at h1;obtain ⟨cs,e1,e3⟩:=h1;obtain ⟨v,hv,hrv⟩:=qLh e3 hx;exact qV (s:=Instr.extract (a.eval y) i) (by simp only [execOp,ho]) (v:=v) (by simp [Instr.extract,e1,hv]) hrv
 case call cl=>
  obtain ⟨callee,args,argTypes⟩:=cl;cases callee with
  | invoke r m=>
   simp only [yH,ho] at hc
   (repeat' split at hc)<;>first | (cases hc; done) | (cases hc; simp only [qL] at hx; cases hx; done)
  | value f=>
   cases f with
   | func f=>
    simp only [yH,ho] at hc;split at hc<;>first | (cases hc; done) | skip
    rename_i xs hxs;unfold jQz at hc
    (repeat' split at hc)<;>(cases hc; simp only [qL] at hx; cases hx; done)
   | _=>simp only [yH,ho] at hc<;>(repeat' split at hc)<;>first | (cases hc; done) | (cases hc; simp only [qL] at hx; cases hx; done)
  | builtin bi=>
   cases bi<;>simp only [yH,ho] at hc<;>first | (cases hc; done) | skip
   case append=>
    split at hc<;>first | (cases hc; done) | skip
    rename_i t t' y z hat har;have hat':argTypes = #[t,t']:=by rw [←Array.toList_inj]; exact hat
    have har':args = #[y,z]:=by rw [←Array.toList_inj]; exact har
    subst hat'; subst har';split at hc
    ·(repeat' split at hc)<;>first | (cases hc; done) | (cases hc; simp only [qL] at hx; cases hx; done)
    ·cases hc
   case len=>
    split at hc
    ·rename_i t y hat har;have hat':argTypes = #[t]:=by rw [←Array.toList_inj]; exact hat
     have har':args = #[y]:=by rw [←Array.toList_inj]; exact har
     subst hat'; subst har';have fin:∀ (n:Nat),(Builtin.len_ #[t] o.type #[a.eval y]).run P w = .ok (.int .i64 n) w→∃ v,(execOp a.eval o).run P w = .ok (.value v) w∧RV μ j (.i .i64 n) v:=by
      intro n h;exact ⟨.int .i64 n,by simp [execOp,ho,resolve,invoke,builtin,h],rfl⟩
     split at hc<;>cases hc
     ·rename_i y' hu hy;have h1:=qM hy ht;simp only [qL,xLn,qI] at hx;split at hx<;>cases hx;rename_i n v hl;rw [hl] at h1;obtain ⟨s,e1,e2,_⟩:=h1;refine fin _ ?_;simp [Builtin.len_,run_underlying hu,e1,goInt,e2]
     ·rename_i y' hu hy;have h1:=qM hy ht;simp only [qL,xLm] at hx;split at hx<;>cases hx
      ·rename_i hl;rw [hl] at h1;have e1:a.eval y = .slice none 0 0:=h1;refine fin 0 ?_;simp [Builtin.len_,run_underlying hu,e1,goInt]
      ·rename_i b off n sz hl;rw [hl] at h1;have e1:∃ A cap,a.eval y = .slice A n cap:=by
        rcases h1 with ⟨_,rfl,ad,cap,e1,_⟩ | ⟨g,cap,_,e1,_⟩<;>exact ⟨_,_,e1⟩
       obtain ⟨A,cap,e1⟩:=e1;refine fin n ?_;simp [Builtin.len_,run_underlying hu,e1,goInt]
      ·rename_i l hl;rw [hl] at h1;obtain ⟨A,c,e1,_⟩:=h1;refine fin (jKm l 0) ?_;rw [sA,Nat.add_zero];simp [Builtin.len_,run_underlying hu,e1,goInt]
    ·cases hc
   case max=>
    split at hc<;>first | (cases hc; done) | skip
    rename_i y z har;have har':args = #[y,z]:=by rw [←Array.toList_inj]; exact har
    subst har';split at hc<;>cases hc;rename_i y' z' hy hz;have h1:=qM hy ht;have h2:=qM hz ht;simp only [qL,xMx,sC] at hx;split at hx<;>first | (cases hx; done) | skip
    rename_i k p k' q hp hq;rw [hp] at h1;rw [hq] at h2;split at hx<;>cases hx;rename_i hk;obtain rfl:=jBj hk;refine ⟨.int k (if q > p then q else p),?_,?_⟩
    ·simp [execOp,ho,resolve,invoke,builtin,Builtin.max_,Builtin.max2,show a.eval y = .int k p from h1,show a.eval z = .int k q from h2]
    ·show _=_;by_cases e:p<q<;>simp [e]
   case min=>
    split at hc<;>first | (cases hc; done) | skip
    rename_i y z har;have har':args = #[y,z]:=by rw [←Array.toList_inj]; exact har
    subst har';split at hc<;>cases hc;rename_i y' z' hy hz;have h1:=qM hy ht;have h2:=qM hz ht;simp only [qL,xMn,sC] at hx;split at hx<;>first | (cases hx; done) | skip
    rename_i k p k' q hp hq;rw [hp] at h1;rw [hq] at h2;split at hx<;>cases hx;rename_i hk;obtain rfl:=jBj hk;refine ⟨.int k (if q<p then q else p),?_,?_⟩
    ·simp [execOp,ho,resolve,invoke,builtin,Builtin.min_,Builtin.min2,show a.eval y = .int k p from h1,show a.eval z = .int k q from h2]
    ·show _=_;by_cases e:q<p<;>simp [e]
 all_goals (simp only [yH,ho] at hc; cases hc)
end
end
end Go.Proofs.YtdlhiljbhepliaaGreatDoor.Ev
