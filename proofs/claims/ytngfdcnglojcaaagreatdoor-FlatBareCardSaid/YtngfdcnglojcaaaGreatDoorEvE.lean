/-
Each pure operation of the small language is the model's operation. No program is named here.
-/
import Derived.Test.YtngfdcnglojcaaaGreatDoorEvD
import Derived.Laws.BytesString
import Derived.Lib.Builder
import Derived.Lib.Bytealg
import Derived.Laws.StructEq
import Derived.MapKept
set_option linter.all false
namespace Go.Proofs.YtngfdcnglojcaaaGreatDoor.Ev
noncomputable section
open Go Go.RowKit
section
variable {P:Program} {μ:Mu} {B:Nat→Prop} {w0 w:World} {j:J} {σ:Mem} {τ:T} {a:Act}
theorem jCg (fs:List Field) (place:Nat→Option (Nat×Nat)) (hp:∀ (i:Nat) (f:Field) (n:Nat),fs[i]?=some f→xJ P f.type=some n→place i=some (f.offset,n)) :
  ∀ (l:List (Nat×Operand)) (ps:List (Nat×Nat×X)),hZ P fs l=some ps→jEf place l ps
 | [],ps,h=>by cases h; exact .nil
 | (i,x)::r,ps,h=>by
  simp only [hZ] at h
  split at h
  ·rename_i f hf
   split at h
   ·rename_i n y ps' h1 h2 h3
    cases h
    exact .cons (hp i f n hf h1) h2 (jCg fs place hp r ps' h3)
   ·cases h
  ·cases h
theorem sG (sz:Nat):∀ (l:List (Nat×Operand)) (ps:List (Nat×Nat×X)),dE sz l=some ps→jEf (fun i=>some (i*sz,sz)) l ps
 | [],ps,h=>by cases h; exact .nil
 | (i,x)::r,ps,h=>by
  simp only [dE] at h
  split at h
  ·rename_i y ps' h2 h3
   cases h
   exact .cons rfl h2 (sG sz r ps' h3)
  ·cases h
theorem jCz:∀ (fs:List Field),aG P fs=true→∃ places:List (Nat×Nat),fs.mapM (fun f=>(P.info? f.type).map fun i=>(f.offset,i.size))=some places ∧
  ∀ (i:Nat) (f:Field) (n:Nat),fs[i]?=some f→xJ P f.type=some n→places[i]?=some (f.offset,n)
 | [],_=>⟨[],rfl,fun i f n h=>by simp at h⟩
 | f::fs,h=>by
  simp only [aG,List.all_cons,Bool.and_eq_true] at h
  obtain ⟨n,hn⟩:=Option.isSome_iff_exists.1 h.1
  obtain ⟨i,hi,rfl⟩:=vL hn
  obtain ⟨pl,hm,hg⟩:=jCz fs (by simpa [aG] using h.2)
  refine ⟨(f.offset,i.size)::pl,?_,?_⟩
  ·simp [List.mapM_cons,hi,hm]
  ·intro k g m hk hs
   cases k with
   | zero=>
    simp at hk
    subst hk
    obtain ⟨i',hi',rfl⟩:=vL hs
    rw [hi] at hi'
    cases hi'
    rfl
   | succ k=>simpa using hg k g m (by simpa using hk) hs
theorem jJv (hμ:yF μ) (ht:RT μ j τ a) {t:TypeId} {z l:List AV} {parts:Array (Nat×Operand)} {ps:List (Nat×Nat×X)} (hz:bA P t=some z)
  (hp:(∃ fs:Array Field,P.underlying t=some (.struct fs)∧aG P fs.toList=true∧hZ P fs.toList parts.toList=some ps)∨(∃ k e n,P.underlying t=some (.array k e)∧xJ P e=some n∧dE n parts.toList=some ps))
  (hl:wT τ ps z=some l):∃ cells:Array Value,(Instr.build t (parts.map fun (i,x)=>(i,a.eval x))).run P w = .ok (.agg cells) w∧RL μ j l cells.toList:=by
 obtain ⟨it,zv,hit,hzv,hzr,_⟩:=aO (μ:=μ) (j:=j) hz
 have hmap:(parts.map fun (x:Nat×Operand)=>(x.1,a.eval x.2)).toList=parts.toList.map fun p=>(p.1,a.eval p.2):=by simp
 rcases hp with ⟨fs,hu,hs,hpl⟩ | ⟨k,e,n,hu,hn,hpl⟩
 ·obtain ⟨places,hm,hg⟩:=jCz fs.toList hs
  have hparts:=jCg fs.toList (places[·]?) (fun i f n h1 h2=>hg i f n h1 h2) _ _ hpl
  obtain ⟨cells,hf,hr⟩:=oE hμ _ ht _ _ _ _ zv.cells hparts hl hzr
  refine ⟨cells,run_build w t _ cells ?_,hr⟩
  simp only [Program.built,hit,hu,hzv,hm]
  rw [hmap]
  simpa using hf
 ·obtain ⟨ie,hie,rfl⟩:=vL hn
  have hparts:=sG ie.size _ _ hpl
  obtain ⟨cells,hf,hr⟩:=oE hμ _ ht _ _ _ _ zv.cells hparts hl hzr
  refine ⟨cells,run_build w t _ cells ?_,hr⟩
  simp only [Program.built,hit,hu,hzv,hie]
  rw [hmap]
  exact hf
theorem kO {len cap:Nat} {lo hi:Option X} {l h:Nat} (hb:vS len (X.evO τ lo) (X.evO τ hi)=some (l,h)) (hc:len≤cap) (ht:RT μ j τ a) {plo phi:Option Operand} (hlo:jWk plo=some lo) (hhi:jWk phi=some hi) (g:Bool) :
  (Instr.sliceBounds g len cap (plo.map a.eval) (phi.map a.eval) none).run P w = .ok (l,h,cap) w∧l≤h∧h≤len:=by
 have val:∀ (p:Option Operand) (x:Option X),jWk p=some x→(p=none∧x=none)∨∃ q y,p=some q∧x=some y∧RV μ j (y.ev τ) (a.eval q):=by
  intro p x e
  cases p with
  | none=>cases e; exact .inl ⟨rfl,rfl⟩
  | some q=>
   simp only [jWk] at e
   split at e
   ·rename_i y hy
    cases e
    exact .inr ⟨q,y,rfl,rfl,jJ hy ht⟩
   ·cases e
 unfold vS at hb
 split at hb
 ·cases hb
 ·rename_i h' hh
  split at hb
  ·cases hb
  ·rename_i l' hl
   split at hb
   ·rename_i hle
    simp only [Option.some.injEq,Prod.mk.injEq] at hb
    obtain ⟨rfl,rfl⟩:=hb
    simp only [Bool.and_eq_true,Nat.ble_eq] at hle
    refine ⟨?_,hle.1,hle.2⟩
    rcases val phi hi hhi with ⟨rfl,rfl⟩ | ⟨q,y,rfl,rfl,hv⟩<;>rcases val plo lo hlo with ⟨rfl,rfl⟩ | ⟨q',y',rfl,rfl,hv'⟩
    ·simp only [X.evO,Option.some.injEq] at hh hl
     subst hh; subst hl
     simp [Instr.sliceBounds]
    ·simp only [X.evO,Option.some.injEq] at hh hl
     subst hh
     obtain ⟨k,hk⟩:=fR hl hv'
     simp [Instr.sliceBounds,Instr.sliceBound,hk,asIntOf,hle.1]
    ·simp only [X.evO,Option.some.injEq] at hh hl
     subst hl
     obtain ⟨k,hk⟩:=fR hh hv
     have:h'≤cap:=by omega
     simp [Instr.sliceBounds,Instr.sliceBound,hk,asIntOf,this]
    ·simp only [X.evO] at hh hl
     obtain ⟨k,hk⟩:=fR hh hv
     obtain ⟨k',hk'⟩:=fR hl hv'
     have:h'≤cap:=by omega
     simp [Instr.sliceBounds,Instr.sliceBound,hk,hk',asIntOf,this,hle.1]
   ·cases hb
theorem jOf {l:List AV} {cs:Array Value} (h:RL μ j l cs.toList) {n:Nat} {x:AV} (hx:l[n]?=some x):∃ v,cs[n]?=some v∧RV μ j x v:=by
 obtain ⟨v,hv,hr⟩:=RL.nth _ _ h n x hx
 exact ⟨v,by simpa using hv,hr⟩
theorem jSm {t:TypeId} {n:Option Nat} (hn:dT P t=some n) {l:List AV} {cs:Array Value} (hr:RL μ j l cs.toList) {off:Nat} {x:AV}
  (hx:fdA l off n=some x):∃ v,(part t cs off).run P w = .ok v w∧RV μ j x v:=by
 rcases nG hn with ⟨k,rfl,ha,hs⟩ | ⟨rfl,ha⟩
 ·simp only [fdA] at hx
  split at hx
  ·rename_i l' hl
   cases hx
   rw [qP] at hl
   obtain ⟨rfl,hle⟩:=zH _ _ _ hl
   refine ⟨.agg (cs.extract off (off+k)),by simp [part,vZ ha,run_sizeOf hs],_,rfl,?_⟩
   have:=(hr.drop off).take k
   simpa [List.take_drop,Array.toList_extract,List.extract_eq_take_drop] using this
  ·cases hx
 ·simp only [fdA,wL] at hx
  obtain ⟨v,hv,h⟩:=jOf hr hx
  exact ⟨v,by simp [part,vZ ha,hv],h⟩
theorem jFs:∀ (bs:List UInt8) (r:ByteArray),((bs.map fun b=>(b.toNat:Int)).foldl (fun (r:ByteArray) (n:Int)=>r.push (UInt8.ofNat n.toNat)) r).data.toList=r.data.toList++bs
 | [],r=>by simp
 | b::bs,r=>by
  simp only [List.map_cons,List.foldl_cons]
  rw [jFs bs]
  simp
theorem vF (ad:Addr) (bs:List UInt8) (cap:Nat) (h:∀ (i:Nat) (v:Value),(bs.map fun b=>Value.int .u8 b.toNat)[i]?=some v→w.cell? (ad.add i)=some v) :
  ∃ s:ByteArray,(Conv.bytesToString (.slice (some ad) bs.length cap)).run P w = .ok (.string s) w∧s.data.toList=bs:=by
 have h1:=run_loadCells_list (P:=P) w ad (bs.map fun b=>Value.int .u8 b.toNat) h
 rw [List.length_map] at h1
 refine ⟨_,run_bytesToString w ad bs.length cap (bs.map fun b=>(b.toNat:Int)) (by rw [h1]; congr 1; simp [Function.comp_def]),?_⟩
 rw [jFs]
 rfl
theorem qGu {t e:TypeId} {i:TypeInfo} (ht:P.underlying t=some (.pointer e)) (hi:P.info? e=some i) (hz:i.size≠0) (p q:Option Addr) (h:∀ a b,p=some a→q=some b→a.block=b.block) :
  (Op.equal t (.pointer p) (.pointer q)).run P w = .ok (p==q) w:=by
 have h':∀ d:Nat,(Op.equalIn (d+1) t (.pointer p) (.pointer q)).run P w = .ok (p==q) w:=fun d=>by
  cases p with
  | none=>cases q<;>simp [Op.equalIn,run_underlying ht]
  | some a=>
   cases q with
   | none=>simp [Op.equalIn,run_underlying ht]
   | some b=>
    have hb:=h a b rfl rfl
    simp [Op.equalIn,run_underlying ht,sizeOf,typeInfo,hi,hz,sameAddr,hb]
 exact h' 9999
theorem jXy {t:TypeId} {ms:Array (String×TypeId)} (ht:P.underlying t=some (.interface ms)):(Op.equal t .nilIface .nilIface).run P w = .ok true w:=by
 have h':∀ d:Nat,(Op.equalIn (d+1) t .nilIface .nilIface).run P w = .ok true w:=fun d=>by simp [Op.equalIn,run_underlying ht]
 exact h' 9999
theorem lB {t u:TypeId} {v:Value} {ms:Array (String×TypeId)} (ht:P.underlying t=some (.interface ms)):(Op.equal t (.iface u v) .nilIface).run P w = .ok false w:=by
 have h':∀ d:Nat,(Op.equalIn (d+1) t (.iface u v) .nilIface).run P w = .ok false w:=fun d=>by simp [Op.equalIn,run_underlying ht]
 exact h' 9999
theorem jRb {t e:TypeId} (ht:P.underlying t=some (.slice e)) (b:Option Addr) (n c:Nat):(Op.equal t (.slice b n c) (.slice none 0 0)).run P w = .ok b.isNone w:=by
 have h':∀ d:Nat,(Op.equalIn (d+1) t (.slice b n c) (.slice none 0 0)).run P w = .ok b.isNone w:=fun d=>by cases b<;>simp [Op.equalIn,run_underlying ht]
 exact h' 9999
theorem jXz {k:Nat} {x y:AV} {b:Bool} (h:eqV k x y=some b) {t:TypeId} (ht:jRu P t=some k) {u v:Value} (hu:RV μ j x u) (hv:RV μ j y v) {d:Nat} (hd:d≠0):(Op.equalIn d t u v).run P w = .ok b w:=by
 obtain ⟨d,rfl⟩:∃ k,d=k+1:=⟨d - 1,by omega⟩
 unfold jRu at ht
 split at ht<;>cases ht
 ·rename_i hq
  simp only [eqV] at h
  split at h<;>cases h
  cases hu
  cases hv
  exact run_equalIn_bool' w d t _ _ hq
 ·rename_i k hq
  simp only [eqV] at h
  split at h<;>first | (cases h; done) | skip
  split at h<;>cases h
  rename_i hk
  obtain rfl:=fJ hk
  cases hu
  cases hv
  rw [bT]
  exact run_equalIn_int w d t _ _ _ _ hq
 ·rename_i hq
  simp only [eqV] at h
  split at h<;>cases h
  obtain ⟨s1,rfl,e1,e1'⟩:=hu
  obtain ⟨s2,rfl,e2,e2'⟩:=hv
  subst e1 e1' e2 e2'
  rw [rU,run_equalIn_string w d t _ _ hq,toList_data,toList_data]
theorem jAp {l l':List AV} {cs cs':Array Value} (hl:RL μ j l cs.toList) (hl':RL μ j l' cs'.toList) {d:Nat} (hd:d≠0):∀ {fs:List Field} {offs:List (Nat×Nat)} {b:Bool},jSx P fs=some offs→oC l l' offs=some b→(Op.eqFields d cs cs' fs).run P w = .ok b w
 | [],offs,b,hs,h=>by
  cases hs
  cases h
  rfl
 | f::r,offs,b,hs,h=>by
  simp only [jSx] at hs
  split at hs<;>first | (cases hs; done) | skip
  rename_i hn
  split at hs<;>cases hs
  rename_i k lo hk hlo
  have hn' : f.name ≠ "_" := by simpa using hn
  have hag:jJl P f.type=some false:=by
   unfold jRu at hk
   unfold jJl
   split at hk<;>first | (cases hk; done) | (rename_i hq; rw [hq])
  have hpart:∀ {l:List AV} {cs:Array Value} {x:AV},RL μ j l cs.toList→hN f.offset l=some x→∃ v,(part f.type cs f.offset).run P w = .ok v w∧RV μ j x v:=by
   intro l cs x hr hx
   rw [wL] at hx
   obtain ⟨v,hv,hr'⟩:=jOf hr hx
   exact ⟨v,by simp [part,vZ hag,hv],hr'⟩
  simp only [oC] at h
  split at h<;>first | (cases h; done) | skip
  rename_i x y hx hy
  obtain ⟨u,hu,hru⟩:=hpart hl hx
  obtain ⟨v,hv,hrv⟩:=hpart hl' hy
  simp only [Op.eqFields,hn',ne_eq,not_false_eq_true,if_true,Sem.run_bind,hu,hv,Result.andThen_ok]
  split at h<;>first | (cases h; done) | skip
  ·rename_i hb
   rw [jXz hb hk hru hrv hd]
   simp only [Result.andThen_ok,Bool.not_true,Bool.false_eq_true,if_false]
   exact jAp hl hl' hd hlo h
  ·rename_i hb
   cases h
   rw [jXz hb hk hru hrv hd]
   simp
theorem qFo (hr:Rel μ B w0 j σ w) (ht:RT μ j τ a) {o:Oper} {g:Bool} {op:BinOp} {t yt:TypeId} {y z:Operand} (ho:o.op = .binOp op t y z yt) (eo:op=if g then .neq else .eql) {y' z':X} (hy:xOf y=some y') (hz:xOf z=some z') {c:C} {x:AV}
  (hc:jUu P g op t y' z'=some c) (hx:jM c τ σ=some x):jDw P μ j o a w x:=by
 have h1:=jJ hy ht
 have h2:=jJ hz ht
 have fin:∀ (u v:Value) (r:Bool),a.eval y=u→a.eval z=v→(∀ op,(eqGuard op t y z u v).run P w = .ok () w)→(∀ op,binOp op t u v=if op = .neq∨op = .eql then (do let b ←Op.equal t u v; pure (.bool (if op = .neq then !b else b))) else binOp op t u v) →
   (Op.equal t u v).run P w = .ok r w→x = .b (if g then !r else r)→jDw P μ j o a w x:=by
  intro u v r e1 e2 hg hb he ex
  subst ex
  refine jS (s:=do eqGuard op t y z (a.eval y) (a.eval z); binOp op t (a.eval y) (a.eval z)) (v:=.bool (if g then !r else r)) (by simp only [execOp,ho]) ?_ rfl
  rw [e1,e2]
  simp only [Sem.run_bind,hg,Result.andThen_ok]
  rw [hb op]
  subst eo
  cases g<;>simp [he]
 unfold jUu at hc
 split at hc
 ·rename_i hu
  cases hc
  simp only [jM,xBe] at hx
  split at hx<;>cases hx
  rename_i p q hp hq
  rw [hp] at h1
  rw [hq] at h2
  refine fin (.bool p) (.bool q) (p==q) h1 h2 (fun op=>zX (by simp) (by simp)) (fun op=>by cases op<;>rfl) (qGt hu p q) rfl
 ·rename_i e hu
  split at hc
  ·rename_i n hn
   split at hc<;>cases hc
   rename_i hnz
   obtain ⟨i,hi,rfl⟩:=vL hn
   have hnz':i.size≠0:=by simpa using hnz
   have fin2:∀ (p q:Option Addr) (r:Bool),a.eval y = .pointer p→a.eval z = .pointer q→(∀ a b,p=some a→q=some b→a.block=b.block)→(p==q)=r→x = .b (if g then !r else r)→jDw P μ j o a w x:=by
    intro p q r e1 e2 h hr' ex
    subst hr'
    exact fin (.pointer p) (.pointer q) (p==q) e1 e2 (fun op=>zX (by simp) (by simp)) (fun op=>by cases op<;>rfl) (qGu hu hi hnz' p q h) ex
   simp only [jM,xPe] at hx
   split at hx
   ·rename_i hp hq
    cases hx
    rw [hp] at h1
    rw [hq] at h2
    exact fin2 none none true h1 h2 (by simp) rfl (by cases g<;>rfl)
   ·rename_i b off hp hq
    cases hx
    rw [hp] at h1
    rw [hq] at h2
    obtain ⟨g2,_,e2⟩:=h2
    exact fin2 none _ false h1 e2 (by simp) rfl (by cases g<;>rfl)
   ·rename_i b off hp hq
    cases hx
    rw [hp] at h1
    rw [hq] at h2
    obtain ⟨g1,_,e1⟩:=h1
    exact fin2 _ none false e1 h2 (by simp) rfl (by cases g<;>rfl)
   ·rename_i b off b' off' hp hq
    split at hx<;>cases hx
    rename_i hbb
    obtain rfl:b=b':=by simpa using hbb
    rw [hp] at h1
    rw [hq] at h2
    obtain ⟨g1,hg1,e1⟩:=h1
    obtain ⟨g2,hg2,e2⟩:=h2
    rw [hg1] at hg2
    cases hg2
    refine fin2 _ _ (Nat.beq off off') e1 e2 (by intro a b ha hb; cases ha; cases hb; rfl) ?_ rfl
    rw [Bool.eq_iff_iff,beq_iff_eq,Nat.beq_eq]
    simp
   ·cases hx
  ·cases hc
 ·rename_i ms hu
  split at hc<;>cases hc
  simp only [jM,xIe] at hx
  obtain ⟨v,rfl⟩:∃ v,z = .const v:=by
   cases z with
   | const v=>exact ⟨v,rfl⟩
   | tmp t=>simp [xOf] at hz
   | func f=>simp [xOf] at hz
   | global k=>simp [xOf] at hz
  split at hx<;>cases hx
  ·rename_i hp hq
   rw [hp] at h1
   exact fin .nilIface .nilIface true h1 h2 (fun op=>by rw [eqGuard_nil_constR]; rfl) (fun op=>by cases op<;>rfl) (jXy hu) (by cases g<;>rfl)
  ·rename_i ti vi hp hq
   rw [hp] at h1
   obtain ⟨u,e1,_⟩:=h1
   exact fin (.iface ti u) .nilIface false e1 h2 (fun op=>by rw [eqGuard_at_iface]; rfl) (fun op=>by cases op<;>rfl) (lB hu) (by cases g<;>rfl)
  ·rename_i hp hq
   rw [hp] at h1
   obtain ⟨ti,u,e1⟩:=h1
   exact fin (.iface ti u) .nilIface false e1 h2 (fun op=>by rw [eqGuard_at_iface]; rfl) (fun op=>by cases op<;>rfl) (lB hu) (by cases g<;>rfl)
  ·rename_i hp hq
   cases hq
  ·rename_i hp hq
   cases hq
 ·rename_i e hu
  split at hc<;>cases hc
  simp only [jM,xIe] at hx
  split at hx<;>cases hx
  ·rename_i hp hq
   cases hq
  ·rename_i hp hq
   cases hq
  ·rename_i hp hq
   cases hq
  ·rename_i hp hq
   rw [hp] at h1
   exact fin (.slice none 0 0) (.slice none 0 0) true h1 h2 (fun op=>zX (by simp) (by simp)) (fun op=>by cases op<;>rfl) (jRb hu none 0 0) (by cases g<;>rfl)
  ·rename_i b o n z hp hq
   rw [hp] at h1
   have e1:∃ ad m c,a.eval y = .slice (some ad) m c:=by
    rcases h1 with ⟨_,_,ad,c,e,_⟩ | ⟨_,c,_,e,_⟩
    ·exact ⟨_,_,_,e⟩
    ·exact ⟨_,_,_,e⟩
   obtain ⟨ad,m,c,e1⟩:=e1
   exact fin (.slice (some ad) m c) (.slice none 0 0) false e1 h2 (fun op=>zX (by simp) (by simp)) (fun op=>by cases op<;>rfl) (jRb hu (some ad) m c) (by cases g<;>rfl)
 ·rename_i fs hu
  split at hc<;>first | (cases hc; done) | skip
  rename_i hno
  split at hc<;>cases hc
  rename_i offs hoffs
  simp only [Bool.or_eq_true,not_or,Bool.not_eq_true] at hno
  simp only [jM,xSe] at hx
  split at hx<;>first | (cases hx; done) | skip
  rename_i l l' hp hq
  rw [hp] at h1
  rw [hq] at h2
  obtain ⟨cs,e1,hr1⟩:=h1
  obtain ⟨cs',e2,hr2⟩:=h2
  unfold qMt at hx
  split at hx<;>cases hx
  rename_i b hb
  have hfo:P.fieldsOf t=fs:=by simp [Program.fieldsOf,hu]
  refine fin (.agg cs) (.agg cs') b e1 e2 (fun op=>?_) (fun op=>by cases op<;>rfl) ?_ rfl
  ·cases op<;>simp [eqGuard,hno.2]
  ·have:=run_equalIn_struct (P:=P) w 9999 t cs cs' (by rw [hfo]; exact hu) hno.1
   rw [hfo,jAp hr1 hr2 (d:=9999) (by decide) hoffs hb] at this
   exact this
 ·cases hc
  obtain ⟨r,h3,h4⟩:=jQh (P:=P) (w:=w) hx t h1 h2 y z
  exact jS (s:=do eqGuard op t y z (a.eval y) (a.eval z); binOp op t (a.eval y) (a.eval z)) (by simp only [execOp,ho]) h3 h4
theorem eX {t z:Nat} {f:Nat→Bool} {g:Nat→Nat}:∀ {l:List Nat},jBt t ((l.filter f).map fun e=>(e,g e))=some z→f t=true∧z=g t
 | [],h=>by cases h
 | a::r,h=>by
  cases e:f a with
  | false=>
   rw [List.filter_cons_of_neg (by simp [e])] at h
   exact eX h
  | true=>
   rw [List.filter_cons_of_pos e,List.map_cons] at h
   simp only [jBt] at h
   split at h
   ·rename_i h2
    obtain rfl:=Nat.eq_of_beq_eq_true h2
    cases h
    exact ⟨e,rfl⟩
   ·exact eX h
theorem jVl {u e:TypeId} {cells:Nat} (h:qHq P u e=true) (hn:P.cellsOf e≤cells):liesAt P P.depth e (cells / P.cellsOf e) 0 u 1=true:=by
 unfold qHq at h
 simp only [Bool.and_eq_true,Bool.not_eq_true'] at h
 obtain ⟨⟨_,h0⟩,h1⟩:=h
 have h0':P.cellsOf e≠0:=fun e1=>by rw [e1] at h0; cases h0
 have hc:1≤cells / P.cellsOf e:=(Nat.le_div_iff_mul_le (by omega)).2 (by omega)
 have row:∀ (fits:TypeId→Bool) (d n:Nat),rowAt P fits d e 1 0 n=true→rowAt P fits d e (cells / P.cellsOf e) 0 n=true:=by
  intro fits d n hr
  cases d with
  | zero=>simp [rowAt] at hr
  | succ d=>
   simp only [rowAt,h0',if_false,Nat.zero_div,Nat.zero_mod,beq_self_eq_true,Bool.true_and,Nat.zero_add,Nat.sub_zero,Bool.or_eq_true,Bool.and_eq_true,decide_eq_true_eq] at hr ⊢
   rcases hr with ⟨a,b⟩ | ⟨a,b⟩
   ·exact .inl ⟨by omega,b⟩
   ·exact .inr ⟨by omega,b⟩
 have main:∀ (d:Nat) (u:TypeId) (n:Nat),liesAt P d e 1 0 u n=true→liesAt P d e (cells / P.cellsOf e) 0 u n=true:=by
  intro d
  induction d with
  | zero=>intro u n h; simp [liesAt] at h
  | succ d ih=>
   intro u n h
   simp only [liesAt,Bool.or_eq_true] at h ⊢
   rcases h with h | h
   ·exact .inl (row _ _ _ h)
   ·right
    split at h
    ·exact ih _ _ h
    ·cases h
 exact main _ _ _ h1
theorem jKc (hr:Rel μ B w0 j σ w) (ht:RT μ j τ a) {o:Oper} {src dst:TypeId} {y:Operand} (ho:o.op = .convert src dst y) {y':X} (hy:xOf y=some y') {x:AV} :
  (∀ t,P.underlying src=some (.pointer t)→P.underlying dst=some .unsafePointer→∀ i,P.info? t=some i→i.size≠0→xPu y' τ σ=some x→jDw P μ j o a w x) ∧
  (∀ u,P.underlying src=some .unsafePointer→P.underlying dst=some (.pointer u)→∀ i,P.info? u=some i→i.size≠0→xPf (pfT P u) y' τ σ=some x→jDw P μ j o a w x):=by
 have h1:=jJ hy ht
 refine ⟨fun t hs hd i hi hz hx=>?_,fun u hs hd i hi hz hx=>?_⟩
 ·unfold xPu at hx
  split at hx<;>first | (cases hx; done) | skip
  rename_i b off hb
  rw [hb] at h1
  obtain ⟨g,hg,e1⟩:=h1
  unfold qMr at hx
  split at hx<;>first | (cases hx; done) | skip
  rename_i blk hblk
  split at hx<;>cases hx
  rename_i v hv
  rw [wL] at hv
  have hlt:=(List.getElem?_eq_some_iff.1 hv).1
  obtain ⟨g2,cs,fz,hg2,hBg,hh,hcs,hfz,hth,hlen,hall,hcells⟩:=hr.get b blk hblk
  rw [hg] at hg2
  cases hg2
  have hsh:w.shape? g.c=some (blk.elem,cs.size):=by simp only [World.shape?,hh]
  exact jS (s:=convert src dst (a.eval y)) (by simp only [execOp,ho]) (v:=.pointer (some ⟨g.c,off,none⟩)) (by rw [e1]; exact Lib.run_to_unsafe w ⟨g.c,off,none⟩ hs hd hi hz hsh (by show off<_; omega)) ⟨g,hg,rfl⟩
 ·unfold xPf at hx
  split at hx<;>first | (cases hx; done) | skip
  rename_i b hb
  rw [hb] at h1
  obtain ⟨g,hg,e1⟩:=h1
  unfold qMq at hx
  split at hx<;>first | (cases hx; done) | skip
  rename_i blk hblk
  split at hx<;>first | (cases hx; done) | skip
  rename_i sz hel
  obtain ⟨hok,rfl⟩:=eX hel
  split at hx<;>cases hx
  rename_i l hl
  have hle:=(zH _ _ _ hl).2
  obtain ⟨g2,cs,fz,hg2,hBg,hh,hcs,hfz,hth,hlen,hall,hcells⟩:=hr.get b blk hblk
  rw [hg] at hg2
  cases hg2
  have hsh:w.shape? g.c=some (blk.elem,cs.size):=by simp only [World.shape?,hh]
  exact jS (s:=convert src dst (a.eval y)) (by simp only [execOp,ho]) (v:=.pointer (some ⟨g.c,0,none⟩)) (by rw [e1]; exact Lib.run_from_unsafe w ⟨g.c,0,none⟩ hs hd hi hsh (jVl hok (by omega))) ⟨g,hg,rfl⟩
theorem mC {s : String} {f : Nat} (h : lG P s f = true) (hs : (s == "runtime.NumGoroutine") = false) {e : Array Value → Sem Value} (he : ∀ fn : Func, fn.name = s → Extern.find fn = some e) (xs : Array Value) : (callFunc f xs).run P w = ((e xs).run P w).andThen fun v w' => .ok (.value v) w' := by
 unfold lG at h
 split at h
 ·rename_i fn hf
  simp only [Bool.and_eq_true,beq_iff_eq,Option.isNone_iff_eq_none] at h
  exact run_callFunc_extern hf (by rw [h.1.1]; exact hs) (by rw [h.1.2]; rfl) h.2 (he fn h.1.1) xs w
 ·cases h
theorem jRo (c:Nat) (hc:c<256):∀ (l:List UInt8) (k:Nat),jYr c (l.map UInt8.toNat) k=if Lib.indexByte l (UInt8.ofNat c) = -1 then -1 else Lib.indexByte l (UInt8.ofNat c)+k
 | [],k=>by simp [jYr,Lib.indexByte]
 | b::l,k=>by
  have hb:Nat.beq b.toNat c=(b==UInt8.ofNat c):=by
   rw [Bool.eq_iff_iff,Nat.beq_eq,beq_iff_eq,←UInt8.toNat_inj,UInt8.toNat_ofNat',Nat.mod_eq_of_lt (by omega)]
  have hge:=Lib.indexByte_ge l (UInt8.ofNat c)
  simp only [List.map_cons,jYr,Lib.indexByte,hb,jRo c hc l]
  split
  ·simp
  ·by_cases h:Lib.indexByte l (UInt8.ofNat c) = -1
   ·simp [h]
   ·simp only [h,if_false,beq_iff_eq]
    rw [if_neg (by omega)]
    show _+((k+1:Nat):Int)=_
    omega
theorem jQr (c:Nat) (hc:c<256):∀ (l:List UInt8) (k:Nat),jUq c (l.map UInt8.toNat) k=Lib.countByte l (UInt8.ofNat c)+k
 | [],k=>by simp [jUq,Lib.countByte]
 | b::l,k=>by
  have hb:Nat.beq b.toNat c=(b==UInt8.ofNat c):=by
   rw [Bool.eq_iff_iff,Nat.beq_eq,beq_iff_eq,←UInt8.toNat_inj,UInt8.toNat_ofNat',Nat.mod_eq_of_lt (by omega)]
  have h1:=jQr c hc l
  unfold Lib.countByte at h1 ⊢
  simp only [List.map_cons,jUq,hb,h1,List.count_cons]
  split
  ·show _+(k+1)=_; omega
  ·omega
theorem jRp (c:Nat) (hc:c<256):∀ {l:List AV} {k:Nat} {r:Int} {bs:List UInt8},qDt c l k=some r→RL μ j l (bs.map fun b=>Value.int .u8 b.toNat)→r=if Lib.indexByte bs (UInt8.ofNat c) = -1 then -1 else Lib.indexByte bs (UInt8.ofNat c)+k
 | [],k,r,bs,h,hl=>by
  have e1:bs=[]:=by simpa using (show (bs.map fun b=>Value.int .u8 b.toNat)=[] from hl)
  cases h
  simp [e1,Lib.indexByte]
 | x::l,k,r,bs,h,hl=>by
  obtain ⟨v,t,e1,hv,ht⟩:=hl
  cases bs with
  | nil=>cases e1
  | cons b bs=>
   simp only [List.map_cons,List.cons.injEq] at e1
   obtain ⟨rfl,rfl⟩:=e1
   have hcc:RV μ j (.i .u8 (.ofNat c)) (.int .u8 (UInt8.ofNat c).toNat):=by
    show Value.int .u8 ((UInt8.ofNat c).toNat:Int)=Value.int .u8 (Int.ofNat c)
    rw [UInt8.toNat_ofNat',Nat.mod_eq_of_lt (by omega)]; rfl
   have hge:=Lib.indexByte_ge bs (UInt8.ofNat c)
   simp only [qDt] at h
   split at h
   ·rename_i hm
    cases h
    have:=nH hm hv hcc
    simp [Lib.indexByte,this]
   ·rename_i hm
    have e2:=nH hm hv hcc
    rw [jRp c hc h ht]
    simp only [Lib.indexByte,e2,Bool.false_eq_true,if_false]
    by_cases h:Lib.indexByte bs (UInt8.ofNat c) = -1
    ·simp [h]
    ·simp only [h,if_false,beq_iff_eq]
     rw [if_neg (by omega)]
     show _+((k+1:Nat):Int)=_
     omega
   ·cases h
theorem jHk (c:Nat) (hc:c<256):∀ {l:List AV} {k r:Nat} {bs:List UInt8},jXk c l k=some r→RL μ j l (bs.map fun b=>Value.int .u8 b.toNat)→r=Lib.countByte bs (UInt8.ofNat c)+k
 | [],k,r,bs,h,hl=>by
  have e1:bs=[]:=by simpa using (show (bs.map fun b=>Value.int .u8 b.toNat)=[] from hl)
  cases h
  simp [e1,Lib.countByte]
 | x::l,k,r,bs,h,hl=>by
  obtain ⟨v,t,e1,hv,ht⟩:=hl
  cases bs with
  | nil=>cases e1
  | cons b bs=>
   simp only [List.map_cons,List.cons.injEq] at e1
   obtain ⟨rfl,rfl⟩:=e1
   have hcc:RV μ j (.i .u8 (.ofNat c)) (.int .u8 (UInt8.ofNat c).toNat):=by
    show Value.int .u8 ((UInt8.ofNat c).toNat:Int)=Value.int .u8 (Int.ofNat c)
    rw [UInt8.toNat_ofNat',Nat.mod_eq_of_lt (by omega)]; rfl
   simp only [jXk] at h
   split at h
   ·rename_i hm
    have e2:=nH hm hv hcc
    have ih:=jHk c hc h ht
    rw [ih]
    unfold Lib.countByte
    rw [List.count_cons,e2]
    show _+(k+1)=_
    simp; omega
   ·rename_i hm
    have e2:=nH hm hv hcc
    rw [jHk c hc h ht]
    unfold Lib.countByte
    rw [List.count_cons,e2]
    simp
   ·cases h
theorem jGw:∀ {l:List AV},jWr l=true→∀ {vs:List Value},RL μ j l vs→∃ bs:List UInt8,vs=bs.map fun b=>Value.int .u8 b.toNat
 | [],_,vs,h=>by cases h; exact ⟨[],rfl⟩
 | x::l,hb,vs,h=>by
  simp only [jWr,Bool.and_eq_true] at hb
  obtain ⟨v,t,rfl,hv,ht⟩:=h
  obtain ⟨bs,rfl⟩:=jGw hb.2 ht
  have h1:=hb.1
  unfold isB at h1
  split at h1
  ·rename_i k lo hi hr
   simp only [Bool.and_eq_true,Nat.blt_eq] at h1
   obtain ⟨n,rfl,g1,g2⟩:=gS hr hv
   obtain rfl:=fJ h1.1
   refine ⟨UInt8.ofNat n.toNat::bs,?_⟩
   simp only [List.map_cons,List.cons.injEq,and_true,Value.int.injEq,true_and]
   rw [UInt8.toNat_ofNat',Nat.mod_eq_of_lt (by omega)]
   omega
  ·cases h1
theorem qFe {k:IntKind} {n:Int} (h0:0≤n) (h1:n≤(qHj k:Int)):k.wrap n=n:=by
 cases k<;>simp only [qHj] at h1<;>simp [IntKind.wrap,IntKind.signed,IntKind.bits]<;>omega
theorem jKm {l:List AV} {s:ByteArray} (hl:RL μ j l (s.data.toList.map fun b=>Value.int .u8 b.toNat)):∀ {m:List (Nat×Nat×AV)} {es:List MapEntry} {r:Option AV},EL μ j m es→jRc l m=some r→pS s.size (qF s.data.toList) m=r
 | [],es,r,_,h=>by cases h; rfl
 | (n,v,x)::m,es,r,hel,h=>by
  obtain ⟨e,t,rfl,⟨u,hk,rfl,rfl⟩,hv,h1,hr⟩:=hel
  have hu:RL μ j (u8s (tD u.size (qF u.data.toList))) (u.data.toList.map fun b=>Value.int .u8 b.toNat):=by
   rw [show u.size=u.data.toList.length from by simp,uY]
   exact jDk _
  simp only [jRc] at h
  split at h
  ·rename_i hb
   cases h
   have:=tH hb hl hu
   simp only [pS,rU,this,if_true]
  ·rename_i hb
   have:=tH hb hl hu
   simp only [pS,rU,this,Bool.false_eq_true,if_false]
   exact jKm hl hr h
  ·cases h
theorem qGw {f:Nat} {xs:List X} {c:C} (hc:jHg P f xs=some c) {vs:List Value} (hv:RL μ j (evs τ xs) vs) {x:AV} (hx:jM c τ σ=some x):∃ v,(callFunc f vs.toArray).run P w = .ok (.value v) w∧RV μ j x v:=by
 unfold jHg at hc
 split at hc
 ·rename_i hne
  split at hc<;>cases hc
  obtain ⟨v,t,rfl,e2,e3⟩:=hv
  cases e3
  simp only [jM,Option.some.injEq] at hx; subst hx
  refine ⟨v,?_,e2⟩
  rw [mC hne rfl (e:=Extern.AbiNoEscape.same) (fun fn h=>by unfold Extern.find; rw [h]; rfl)]
  rfl
 ·split at hc
  ·rename_i hne
   split at hc<;>cases hc
   obtain ⟨v,t,rfl,e2,e3⟩:=hv
   obtain ⟨v2,t2,rfl,e4,e5⟩:=e3
   cases e5
   simp only [jM,xXi,vV] at hx
   split at hx<;>first | (cases hx; done) | skip
   rotate_left
   ·rename_i l cc h1 h2
    split at hx<;>first | (cases hx; done) | skip
    rename_i hlt
    split at hx<;>cases hx
    rename_i r hr
    rw [h1] at e2
    rw [h2] at e4
    obtain ⟨s,rfl,g1⟩:=e2
    cases e4
    have hlt':cc<256:=by simpa using hlt
    refine ⟨.int .i64 (Lib.indexByte s.data.toList (UInt8.ofNat cc)),?_,?_⟩
    ·rw [mC hne rfl (e:=Extern.BytealgIndexByte.indexByte) (fun fn h=>by unfold Extern.find; rw [h]; rfl)]
     rw [Lib.run_indexByteString]
     rfl
    ·show _=_
     rw [jRp cc hlt' hr g1]
     congr 1
     split
     ·assumption
     ·simp
   rename_i n u cc h1 h2
   split at hx<;>cases hx
   rename_i hlt
   rw [h1] at e2
   rw [h2] at e4
   obtain ⟨s,rfl,g1,g2⟩:=e2
   cases e4
   have hlt':cc<256:=by simpa using hlt
   refine ⟨.int .i64 (Lib.indexByte s.data.toList (UInt8.ofNat cc)),?_,?_⟩
   ·rw [mC hne rfl (e:=Extern.BytealgIndexByte.indexByte) (fun fn h=>by unfold Extern.find; rw [h]; rfl)]
    rw [Lib.run_indexByteString]
    rfl
   ·show _=_
    rw [←g1,←g2,show s.size=s.data.toList.length from by simp,uY,jRo cc hlt']
    congr 1
    split
    ·assumption
    ·simp
  ·split at hc
   ·rename_i hne
    split at hc<;>cases hc
    obtain ⟨v,t,rfl,e2,e3⟩:=hv
    obtain ⟨v2,t2,rfl,e4,e5⟩:=e3
    cases e5
    simp only [jM,xXc,jU] at hx
    split at hx<;>first | (cases hx; done) | skip
    rotate_left
    ·rename_i l cc h1 h2
     split at hx<;>first | (cases hx; done) | skip
     rename_i hlt
     split at hx<;>cases hx
     rename_i r hr
     rw [h1] at e2
     rw [h2] at e4
     obtain ⟨s,rfl,g1⟩:=e2
     cases e4
     have hlt':cc<256:=by simpa using hlt
     refine ⟨.int .i64 (Lib.countByte s.data.toList (UInt8.ofNat cc)),?_,?_⟩
     ·rw [mC hne rfl (e:=Extern.BytealgCount.count) (fun fn h=>by unfold Extern.find; rw [h]; rfl)]
      rw [Lib.run_countString]
      rfl
     ·show _=_
      rw [jHk cc hlt' hr g1]
      rfl
    rename_i n u cc h1 h2
    split at hx<;>cases hx
    rename_i hlt
    rw [h1] at e2
    rw [h2] at e4
    obtain ⟨s,rfl,g1,g2⟩:=e2
    cases e4
    have hlt':cc<256:=by simpa using hlt
    refine ⟨.int .i64 (Lib.countByte s.data.toList (UInt8.ofNat cc)),?_,?_⟩
    ·rw [mC hne rfl (e:=Extern.BytealgCount.count) (fun fn h=>by unfold Extern.find; rw [h]; rfl)]
     rw [Lib.run_countString]
     rfl
    ·show _=_
     rw [←g1,←g2,show s.size=s.data.toList.length from by simp,uY,jQr cc hlt']
     rfl
   ·split at hc
    ·split at hc<;>cases hc
     cases hx
    ·split at hc
     ·cases hc
      simp only [jM] at hx; cases hx
     ·split at hc<;>cases hc<;>(simp only [jM] at hx; cases hx)
theorem rW {s:ByteArray}:∀ {l:List (Nat×Nat×AV)} {es:List MapEntry} (i:Nat),EL μ j l es→match pS s.size (qF s.data.toList) l with
  | some x=>∃ (k:Nat) (e:MapEntry),Instr.findNow .string (.string s) es i=some (some (i+k,e.val))∧es[k]?=some e∧e.key = .string s∧RV μ j x e.val∧∀ (x':AV) (v':Value),RV μ j x' v'→x'.one=true→EL μ j (jZx s.size (qF s.data.toList) x' l) (es.modify k fun e=>{ e with key:=.string s,val:=v' })
  | none=>Instr.findNow .string (.string s) es i=some none∧∀ (x':AV) (e':MapEntry),e'.key = .string s→RV μ j x' e'.val→x'.one=true→EL μ j (jZx s.size (qF s.data.toList) x' l) (es++[e'])
 | [],es,i,h=>by
  cases h
  exact ⟨rfl,fun x' e' h1 h2 h3=>⟨e',[],rfl,⟨s,h1,rfl,rfl⟩,h2,h3,rfl⟩⟩
 | (n,v,x)::r,es,i,h=>by
  obtain ⟨e,t,rfl,⟨u,hk,rfl,rfl⟩,hv,h1,hr⟩:=h
  have hkey:eqS s.size (qF s.data.toList) u.size (qF u.data.toList)=(s==u):=by
   rw [rU,Bool.eq_iff_iff,beq_iff_eq,MapKept.bytes_beq]
   constructor
   ·intro h
    have:s.data=u.data:=by rw [←Array.toList_inj]; exact h
    cases s; cases u; simp at this; rw [this]
   ·rintro rfl; rfl
  simp only [pS,jZx,hkey]
  cases heq:(s==u) with
  | true=>
   obtain rfl:s=u:=(MapKept.bytes_beq _ _).1 heq
   simp only [if_true]
   refine ⟨0,e,?_,rfl,hk,hv,fun x' v' hv' h1'=>⟨_,t,rfl,⟨s,rfl,rfl,rfl⟩,hv',h1',hr⟩⟩
   have hss:(s==s)=true:=(MapKept.bytes_beq _ _).2 rfl
   simp [Instr.findNow,hk,Instr.sameNow,hss]
  | false=>
   simp only [Bool.false_eq_true,if_false]
   have ih:=rW (s:=s) (i+1) hr
   have hstep:Instr.findNow .string (.string s) (e::t) i=Instr.findNow .string (.string s) t (i+1):=by
    simp [Instr.findNow,hk,Instr.sameNow,heq]
   cases hf:pS s.size (qF s.data.toList) r with
   | some y=>
    rw [hf] at ih
    obtain ⟨k,e2,g1,g2,g3,g4,g5⟩:=ih
    refine ⟨k+1,e2,by rw [hstep,g1,show i+1+k=i+(k+1) from by omega],by simpa using g2,g3,g4,fun x' v' hv' h1'=>?_⟩
    exact ⟨e,_,rfl,⟨u,hk,rfl,rfl⟩,hv,h1,g5 x' v' hv' h1'⟩
   | none=>
    rw [hf] at ih
    obtain ⟨g1,g2⟩:=ih
    exact ⟨by rw [hstep,g1],fun x' e' a1 a2 a3=>⟨e,_,rfl,⟨u,hk,rfl,rfl⟩,hv,h1,g2 x' e' a1 a2 a3⟩⟩
theorem qLk (hr:Rel μ B w0 j σ w) (ht:RT μ j τ a) {o:Oper} {t:TypeId} {m k:Operand} {ok:Bool} (ho:o.op = .lookup t m k ok) {kt e:TypeId} (hu:P.underlying t=some (.map kt e)) (hk':P.underlying kt=some .string) {z:AV} (hz:qCe P e=some z) {m' k':X} (hm:xOf m=some m') (hkk:xOf k=some k') {x:AV}
  (hx:jM (.lk ok z m' k') τ σ=some x):jDw P μ j o a w x:=by
 have h1:=jJ hm ht
 have h2:=jJ hkk ht
 have key:∃ (b:Nat) (s:ByteArray),m'.ev τ = .mp b∧a.eval k = .string s∧lkI ok z s.size (qF s.data.toList) (σ.it.get b)=some x:=by
  simp only [jM,xLk] at hx
  split at hx<;>first | (cases hx; done) | skip
  ·rename_i b n v hb hs
   rw [hs] at h2
   obtain ⟨s,e2,rfl,rfl⟩:=h2
   exact ⟨b,s,hb,e2,hx⟩
  ·rename_i b l hb hs
   rw [hs] at h2
   obtain ⟨s,e2,hl⟩:=h2
   refine ⟨b,s,hb,e2,?_⟩
   unfold lkS at hx
   split at hx<;>first | (cases hx; done) | skip
   rename_i m hit
   split at hx<;>cases hx
   rename_i r hr'
   obtain ⟨g2,o2,hg2,hBg,hh,es,clock,rfl,hel⟩:=hr.iter b (.mp m) hit
   rw [hit]
   simp only [lkI,jKm hl hel hr']
 obtain ⟨b,s,hb,e2,hx⟩:=key
 rw [hb] at h1
 unfold lkI at hx
 split at hx<;>first | (cases hx; done) | skip
 rename_i l hit
 have hb0:b≠0:=by
  rintro rfl
  obtain ⟨g2,_,hg2,_⟩:=hr.iter 0 _ hit
  have:=(hr.dom 0 g2 hg2).1
  omega
 rcases h1 with ⟨h0,_⟩ | ⟨g,hg,e1⟩
 ·exact absurd h0 hb0
 cases hx
 obtain ⟨g2,o2,hg2,hBg,hh,es,clock,rfl,hel⟩:=hr.iter b (.mp l) hit
 rw [hg] at hg2
 cases hg2
 have hchk:∀ q,(Instr.checkKey q 10000 kt (.string s)).run P w = .ok () w:=by
  intro q
  have h:∀ d:Nat,(Instr.checkKey q (d+1) kt (.string s)).run P w = .ok () w:=fun d=>by simp [Instr.checkKey,run_underlying hk']
  exact h 9999
 have hf:=rW (s:=s) 0 hel
 have hfk:∀ r,Instr.findNow .string (.string s) es.toList 0=some r→(Instr.findKey kt (.string s) es.toList).run P w = .ok r w:=by
  intro r hr'
  simp [Instr.findKey,run_underlying hk',hr']
 have hzv:∃ zv,(zeroValue e).run P w = .ok zv w∧RV μ j z zv:=by
  unfold qCe at hz
  split at hz<;>first | (cases hz; done) | skip
  rename_i i hi
  split at hz<;>first | (cases hz; done) | skip
  rename_i zv hzv
  exact ⟨zv,by simp [zeroValue,typeInfo,hi,hzv],(jGu hz).1⟩
 obtain ⟨zv,hzr,hzv⟩:=hzv
 cases hfm:pS s.size (qF s.data.toList) l with
 | some y0=>
  rw [hfm] at hf
  obtain ⟨q,en,g1,g2,g3,g4,g5⟩:=hf
  cases ok with
  | true=>
   exact ⟨.tuple #[en.val,.bool true],by simp [execOp,ho,Instr.lookup,run_underlying hu,e1,e2,getObj,hh,hchk,hfk _ g1,Sem.run],_,rfl,_,_,rfl,g4,_,_,rfl,rfl,rfl⟩
  | false=>
   exact ⟨en.val,by simp [execOp,ho,Instr.lookup,run_underlying hu,e1,e2,getObj,hh,hchk,hfk _ g1,Sem.run],g4⟩
 | none=>
  rw [hfm] at hf
  obtain ⟨g1,g2⟩:=hf
  cases ok with
  | true=>
   exact ⟨.tuple #[zv,.bool false],by simp [execOp,ho,Instr.lookup,run_underlying hu,e1,e2,getObj,hh,hchk,hfk _ g1,hzr,Sem.run],_,rfl,_,_,rfl,hzv,_,_,rfl,rfl,rfl⟩
  | false=>
   exact ⟨zv,by simp [execOp,ho,Instr.lookup,run_underlying hu,e1,e2,getObj,hh,hchk,hfk _ g1,hzr,Sem.run],hzv⟩
theorem qKj (hr:Rel μ B w0 j σ w) (ht:RT μ j τ a) {o:Oper} {y z:Operand} {t t':TypeId} (ho:o.op = .call ⟨.builtin .append, #[y,z], #[t,t']⟩) {e:TypeId} {kt:IntKind} (hu:P.underlying t=some (.slice e)) (hu':P.underlying t'=some (.int kt)) {sz:Nat} (hsz:xJ P e=some sz)
  {y' z':X} (hy:xOf y=some y') (hz:xOf z=some z') {x:AV} (hx:jM (.az y' z') τ σ=some x):jDw P μ j o a w x:=by
 have h1:=jJ hy ht
 have h2:=jJ hz ht
 obtain ⟨i,hi,rfl⟩:=vL hsz
 have w0':IntKind.i64.wrap 0=0:=by decide
 have fin:∀ A n cap kk,a.eval y = .slice A n cap→n≤cap→a.eval z = .int kk 0→(execOp a.eval o).run P w = .ok (.value (.slice A n cap)) w:=by
  intro A n cap kk e1 hle e2
  cases A<;>simp [execOp,ho,resolve,invoke,builtin,Builtin.append_,run_underlying hu,run_underlying hu',e1,e2,sizeOf,typeInfo,hi,asInt,asIntOf,hle,storeCells,w0']
 simp only [jM,xAz] at hx
 split at hx<;>cases hx
 ·rename_i kk hl hl2
  rw [hl] at h1
  rw [hl2] at h2
  exact ⟨_,fin none 0 0 kk h1 (Nat.le_refl _) h2,rfl⟩
 ·rename_i b off n s kk hl hl2
  rw [hl] at h1
  rw [hl2] at h2
  have key:∃ A cap,a.eval y = .slice A n cap∧n≤cap:=by
   rcases h1 with ⟨_,rfl,A,c,e0,_⟩ | ⟨g,cap,_,e0,hle,_⟩
   ·exact ⟨_,_,e0,Nat.zero_le _⟩
   ·exact ⟨_,_,e0,hle⟩
  obtain ⟨A,cap,e0,hle⟩:=key
  exact ⟨_,fin A n cap kk e0 hle h2,by rw [←e0]; exact h1⟩
theorem jZw (hμ:yF μ) (hr:Rel μ B w0 j σ w) (ht:RT μ j τ a) {o:Oper} {c:C} {x:AV} (hc:qO P o=some c) (hx:jM c τ σ=some x):jDw P μ j o a w x:=by
 cases ho:o.op
 case move y=>
  simp only [qO,ho] at hc
  split at hc<;>cases hc
  rename_i y' hy
  simp only [jM,Option.some.injEq] at hx; subst hx
  exact ⟨_,by simp [execOp,ho],jJ hy ht⟩
 case assign y=>
  simp only [qO,ho] at hc
  split at hc<;>cases hc
  rename_i y' hy
  simp only [jM,Option.some.injEq] at hx; subst hx
  exact ⟨_,by simp [execOp,ho],jJ hy ht⟩
 case pick p q r=>
  simp only [qO,ho] at hc
  split at hc<;>cases hc
  rename_i p' q' r' hp hq hr'
  have h1:=jJ hp ht
  simp only [jM,xT,xBd,xLd,xNc,xBe,xCi,xBt,fY,xCs,xSs,gA,xSl,fZ,xFa,xFd,xIa,xIq,xIx,xIv,xEx,xLn,xMx,xMn] at hx
  split at hx<;>first | (cases hx; done) | skip
  ·rename_i hb
   rw [hb] at h1
   cases hx
   exact ⟨_,by simp [execOp,ho,show a.eval p = .bool true from h1,asBool],jJ hq ht⟩
  ·rename_i hb
   rw [hb] at h1
   cases hx
   exact ⟨_,by simp [execOp,ho,show a.eval p = .bool false from h1,asBool],jJ hr' ht⟩
 case alloc e=>
  simp only [qO,ho] at hc
  split at hc<;>cases hc
  cases hx
 case box e y=>
  simp only [qO,ho] at hc
  split at hc<;>cases hc
  cases hx
 case build t ps=>
  simp only [qO,ho] at hc
  split at hc
  ·rename_i z fs hz hu
   split at hc
   ·rename_i hs
    split at hc<;>cases hc
    rename_i ps' hps
    simp only [jM,xT,xBd,xLd,xNc,xBe,xCi,xBt,fY,xCs,xSs,gA,xSl,fZ,xFa,xFd,xIa,xIq,xIx,xIv,xEx,xLn,xMx,xMn] at hx
    split at hx<;>cases hx
    rename_i l hl
    obtain ⟨cells,h1,h2⟩:=jJv (w:=w) hμ ht hz (.inl ⟨_,hu,hs,hps⟩) hl
    exact jS (s:=Instr.build t (ps.map fun (i,x)=>(i,a.eval x))) (by simp only [execOp,ho]) h1 ⟨_,rfl,h2⟩
   ·cases hc
  ·rename_i z k e hz hu
   split at hc
   ·rename_i n hn
    split at hc<;>cases hc
    rename_i ps' hps
    simp only [jM,xT,xBd,xLd,xNc,xBe,xCi,xBt,fY,xCs,xSs,gA,xSl,fZ,xFa,xFd,xIa,xIq,xIx,xIv,xEx,xLn,xMx,xMn] at hx
    split at hx<;>cases hx
    rename_i l hl
    obtain ⟨cells,h1,h2⟩:=jJv (w:=w) hμ ht hz (.inr ⟨_,_,_,hu,hn,hps⟩) hl
    exact jS (s:=Instr.build t (ps.map fun (i,x)=>(i,a.eval x))) (by simp only [execOp,ho]) h1 ⟨_,rfl,h2⟩
   ·cases hc
  ·cases hc
 case buildSlice t n ps=>
  simp only [qO,ho] at hc
  (repeat' split at hc)<;>first | (cases hc; cases hx; done) | (cases hc; done)
 case load t y=>
  simp only [qO,ho] at hc
  split at hc<;>cases hc
  rename_i n y' hn hy
  have h1:=jJ hy ht
  simp only [jM,xT,xBd,xLd,xNc,xBe,xCi,xBt,fY,xCs,xSs,gA,xSl,fZ,xFa,xFd,xIa,xIq,xIx,xIv,xEx,xLn,xMx,xMn] at hx
  split at hx<;>first | (cases hx; done) | skip
  ·rename_i b off hb
   rw [hb] at h1
   obtain ⟨g,hg,he⟩:=h1
   obtain ⟨v,hv,hrv⟩:=lN (P:=P) hr hn hg hx
   exact jS (s:=Instr.loadAt t (a.eval y)) (by simp only [execOp,ho]) (by simp [Instr.loadAt,Instr.sureAddr,he,hv]) hrv
  ·rename_i z hb
   rw [hb] at h1
   obtain ⟨bk,of,cs,e,fz,he,hh,hc⟩:=h1
   split at hx<;>cases hx
   have hw:=hr.heldW _ _ hh
   have hcell:w.cell? ⟨bk,of,none⟩=some (.int .i64 z):=by simp [World.cell?,hw,hc]
   rcases nG hn with ⟨k,e2,_⟩ | ⟨_,ha⟩
   ·cases e2
   ·exact jS (s:=Instr.loadAt t (a.eval y)) (by simp only [execOp,ho]) (v:=.int .i64 z) (by simp [Instr.loadAt,Instr.sureAddr,he,loadVar,vZ ha,hcell]) rfl
 case store t y z=>
  simp only [qO,ho] at hc
  split at hc<;>cases hc
  cases hx
 case nilCheck y=>
  simp only [qO,ho] at hc
  split at hc<;>cases hc
  rename_i y' hy
  have h1:=jJ hy ht
  simp only [jM,xT,xBd,xLd,xNc,xBe,xCi,xBt,fY,xCs,xSs,gA,xSl,fZ,xFa,xFd,xIa,xIq,xIx,xIv,xEx,xLn,xMx,xMn] at hx
  split at hx<;>cases hx
  ·rename_i b off hb
   rw [hb] at h1
   obtain ⟨g,hg,he⟩:=h1
   exact ⟨_,by simp [execOp,ho,he],g,hg,rfl⟩
  ·rename_i f l1 l2 hb
   rw [hb] at h1
   obtain ⟨va,vc,he,h2,h3⟩:=h1
   exact ⟨.func (.func f) va vc,by simp [execOp,ho,he],va,vc,rfl,h2,h3⟩
 case binOp op t y z yt=>
  simp only [qO,ho] at hc
  split at hc
  ·rename_i y' z' hy hz
   have h1:=jJ hy ht
   have h2:=jJ hz ht
   have plain:c = .bi op y' z'→jDw P μ j o a w x:=by
    intro e
    subst e
    simp only [jM,xT,xBd,xLd,xNc,xBe,xCi,xBt,fY,xCs,xSs,gA,xSl,fZ,xFa,xFd,xIa,xIq,xIx,xIv,xEx,xLn,xMx,xMn] at hx
    obtain ⟨r,h3,h4⟩:=jQh (P:=P) (w:=w) hx t h1 h2 y z
    exact jS (s:=do eqGuard op t y z (a.eval y) (a.eval z); binOp op t (a.eval y) (a.eval z)) (by simp only [execOp,ho]) h3 h4
   split at hc
   ·exact qFo hr ht ho (g:=false) rfl hy hz hc hx
   ·exact qFo hr ht ho (g:=true) rfl hy hz hc hx
   ·simp only [Option.some.injEq] at hc
    exact plain hc.symm
  ·cases hc
 case unOp op t y=>
  simp only [qO,ho] at hc
  split at hc<;>cases hc
  rename_i y' hy
  have h1:=jJ hy ht
  simp only [jM,xT,xBd,xLd,xNc,xBe,xCi,xBt,fY,xCs,xSs,gA,xSl,fZ,xFa,xFd,xIa,xIq,xIx,xIv,xEx,xLn,xMx,xMn,unA] at hx
  split at hx
  ·rename_i k n he
   rw [he] at h1
   simp only [uL,Option.some.injEq] at hx; subst hx
   exact jS (s:=Op.unary .neg (a.eval y)) (by simp only [execOp,ho]) (v:=.int k (k.wrap (0 - n))) (by simp [show a.eval y = .int k n from h1,Op.unary,Op.intArith]) rfl
  ·rename_i b he
   rw [he] at h1
   cases hx
   exact jS (s:=Op.unary .not (a.eval y)) (by simp only [execOp,ho]) (v:=.bool (!b)) (by simp [show a.eval y = .bool b from h1,Op.unary]) rfl
  ·rename_i k n he
   rw [he] at h1
   simp only [pO,uL,Option.some.injEq] at hx; subst hx
   refine jS (s:=Op.unary .xor (a.eval y)) (by simp only [execOp,ho]) (v:=.int k (k.wrap (Int.ofNat (BitVec.ofInt k.bits (if k.signed then -1 else k.max) ^^^ BitVec.ofInt k.bits n).toNat))) ?_ rfl
   rw [show a.eval y = .int k n from h1]
   simp only [Op.unary,Op.intBits]
   exact Sem.run_pure P w _
  ·cases hx
 case convert src dst y=>
  simp only [qO,ho] at hc
  split at hc
  ·rename_i k1 k y' hs hd hy
   cases hc
   have h1:=jJ hy ht
   simp only [jM,xT,xBd,xLd,xNc,xBe,xCi,xBt,fY,xCs,xSs,gA,xSl,fZ,xFa,xFd,xIa,xIq,xIx,xIv,xEx,xLn,xMx,xMn] at hx
   split at hx<;>first | (cases hx; done) | skip
   rotate_left
   ·rename_i q k2 lo hi he
    split at hx<;>cases hx
    rename_i hle
    rw [he] at h1
    obtain ⟨n,e0,e1,g1,g2⟩:=h1
    rw [Nat.ble_eq] at hle
    have hw:k.wrap n=n:=qFe (by omega) (by omega)
    exact jS (s:=convert src dst (a.eval y)) (by simp only [execOp,ho]) (v:=.int k (k.wrap n)) (by simp [e1,convert,run_underlying hs,run_underlying hd,Conv.intToInt]) ⟨n,e0,by rw [hw],g1,g2⟩
   rename_i k2 n he
   rw [he] at h1
   simp only [uL,Option.some.injEq] at hx; subst hx
   exact jS (s:=convert src dst (a.eval y)) (by simp only [execOp,ho]) (v:=.int k (k.wrap n)) (by simp [show a.eval y = .int k2 n from h1,convert,run_underlying hs,run_underlying hd,Conv.intToInt]) rfl
  ·rename_i k1 y' hs hd hy
   cases hc
   have h1:=jJ hy ht
   simp only [jM,xIs] at hx
   split at hx<;>first | (cases hx; done) | skip
   rename_i k2 n he
   rw [he] at h1
   rw [qMc,gL] at hx
   cases hx
   exact jS (s:=convert src dst (a.eval y)) (by simp only [execOp,ho]) (v:=.string (Utf8.encode n)) (by simp [show a.eval y = .int k2 n from h1,convert,run_underlying hs,run_underlying hd,Conv.intToString]) ⟨_,rfl,by simp,rfl⟩
  ·rename_i y' hs hd hy
   cases hc
   have h1:=jJ hy ht
   simp only [jM,xT,xBd,xLd,xNc,xBe,xCi,xBt,fY,xCs,xSs,gA,xSl,fZ,xFa,xFd,xIa,xIq,xIx,xIv,xEx,xLn,xMx,xMn] at hx
   split at hx<;>cases hx
   rotate_left
   ·rename_i l he
    rw [he] at h1
    obtain ⟨s,e1,e2⟩:=h1
    exact jS (s:=convert src dst (a.eval y)) (by simp only [execOp,ho]) (v:=.string s) (by simp [e1,convert,run_underlying hs,run_underlying hd]) ⟨s,rfl,e2⟩
   rename_i n v he
   rw [he] at h1
   obtain ⟨s,e1,e2,e3⟩:=h1
   exact jS (s:=convert src dst (a.eval y)) (by simp only [execOp,ho]) (v:=.string s) (by simp [e1,convert,run_underlying hs,run_underlying hd]) ⟨s,rfl,e2,e3⟩
  ·split at hc<;>cases hc
   cases hx
  ·(repeat' split at hc)<;>first | (cases hc; done) | (cases hc; cases hx; done)
  ·rename_i e y' hs hd hy
   split at hc<;>cases hc
   rename_i hue
   have h1:=jJ hy ht
   simp only [jM,xT,xBd,xLd,xNc,xBe,xCi,xBt,fY,xCs,xSs,gA,xSl,fZ,xFa,xFd,xIa,xIq,xIx,xIv,xEx,xLn,xMx,xMn] at hx
   split at hx
   ·rename_i he
    rw [he] at h1
    cases hx
    exact jS (s:=convert src dst (a.eval y)) (by simp only [execOp,ho]) (v:=.string .empty) (by simp [show a.eval y = .slice none 0 0 from h1,convert,run_underlying hs,run_underlying hd,run_underlying hue,Conv.bytesToString]) ⟨_,rfl,rfl,rfl⟩
   ·rename_i b off n sz he
    rw [he] at h1
    split at hx
    ·rename_i hn
     have hn':n=0:=by simpa using hn
     subst hn'
     cases hx
     rcases h1 with ⟨_,_,ad,cap,e1,_⟩ | ⟨g,cap,_,e1,_⟩
     ·exact jS (s:=convert src dst (a.eval y)) (by simp only [execOp,ho]) (v:=.string .empty) (by simp [e1,convert,run_underlying hs,run_underlying hd,run_underlying hue,Conv.bytesToString,loadCells,loadCellsFrom]) ⟨_,rfl,rfl,rfl⟩
     ·exact jS (s:=convert src dst (a.eval y)) (by simp only [execOp,ho]) (v:=.string .empty) (by simp [e1,convert,run_underlying hs,run_underlying hd,run_underlying hue,Conv.bytesToString,loadCells,loadCellsFrom]) ⟨_,rfl,rfl,rfl⟩
    ·rename_i hn
     split at hx
     ·rename_i hsz
      split at hx
      ·rename_i l hl
       split at hx
       ·rename_i r hrb
        cases hx
        rcases h1 with ⟨_,e0,_⟩ | ⟨g,cap,hg,e1,_⟩
        ·subst e0; simp at hn
        ·obtain ⟨vs,hlen,hrl,_,_,hcell⟩:=hr.load hl hg
         obtain ⟨bs,e2,e3⟩:=nC hrb hrl
         obtain ⟨s,hrun,hsb⟩:=vF (P:=P) (w:=w) ⟨g.c,off,none⟩ bs cap (by rw [←e2]; exact hcell)
         have hbl:bs.length=n:=by rw [←hlen,e2]; simp
         rw [hbl] at hrun
         exact jS (s:=convert src dst (a.eval y)) (by simp only [execOp,ho]) (v:=.string s) (by simp [e1,convert,run_underlying hs,run_underlying hd,run_underlying hue,hrun]) ⟨_,rfl,by rw [←hbl,←hsb]; simp,by rw [hsb]; exact e3⟩
       ·split at hx<;>cases hx
        rename_i hall
        rcases h1 with ⟨_,e0,_⟩ | ⟨g,cap,hg,e1,_⟩
        ·subst e0; simp at hn
        ·obtain ⟨vs,hlen,hrl,_,_,hcell⟩:=hr.load hl hg
         obtain ⟨bs,e2⟩:=jGw hall hrl
         obtain ⟨s,hrun,hsb⟩:=vF (P:=P) (w:=w) ⟨g.c,off,none⟩ bs cap (by rw [←e2]; exact hcell)
         have hbl:bs.length=n:=by rw [←hlen,e2]; simp
         rw [hbl] at hrun
         exact jS (s:=convert src dst (a.eval y)) (by simp only [execOp,ho]) (v:=.string s) (by simp [e1,convert,run_underlying hs,run_underlying hd,run_underlying hue,hrun]) ⟨_,rfl,by rw [hsb,←e2]; exact hrl⟩
      ·cases hx
     ·cases hx
   ·cases hx
  ·rename_i t y' hs hd hy
   unfold aV at hc
   split at hc<;>first | (cases hc; done) | skip
   rename_i n hn
   split at hc<;>cases hc
   rename_i hnz
   obtain ⟨i,hi,rfl⟩:=vL hn
   exact (jKc hr ht ho hy).1 t hs hd i hi (by simpa using hnz) hx
  ·rename_i u y' hs hd hy
   unfold aV at hc
   split at hc<;>first | (cases hc; done) | skip
   rename_i n hn
   split at hc<;>cases hc
   rename_i hnz
   obtain ⟨i,hi,rfl⟩:=vL hn
   exact (jKc hr ht ho hy).2 u hs hd i hi (by simpa using hnz) hx
  ·cases hc
 case makeFunc fn f1 f2=>
  cases fn with
  | func fid=>
   simp only [qO,ho] at hc
   split at hc<;>cases hc
   rename_i l1 l2 h1 h2
   simp only [jM,Option.some.injEq] at hx; subst hx
   exact jS (s:=Instr.makeFunc (.func fid) (f1.map a.eval) (f2.map a.eval)) (v:=.func (.func fid) (f1.map a.eval) (f2.map a.eval)) (by simp only [execOp,ho]) (by simp [Instr.makeFunc]) ⟨_,_,rfl,by simpa using wN h1 ht,by simpa using wN h2 ht⟩
  | _=>simp only [qO,ho] at hc; cases hc
 case slice t y lo hi mx=>
  cases mx with
  | some m=>simp only [qO,ho] at hc; cases hc
  | none=>
   simp only [qO,ho] at hc
   split at hc
   ·rename_i y' lo' hi' hu hy hlo hhi
    cases hc
    have h1:=jJ hy ht
    simp only [jM,xT,xBd,xLd,xNc,xBe,xCi,xBt,fY,xCs,xSs,gA,xSl,fZ,xFa,xFd,xIa,xIq,xIx,xIv,xEx,xLn,xMx,xMn] at hx
    split at hx<;>first | (cases hx; done) | skip
    rotate_left
    ·rename_i l he
     rw [he] at h1
     obtain ⟨s,e1,e2⟩:=h1
     unfold qMu at hx
     split at hx<;>first | (cases hx; done) | skip
     rename_i p q hb
     split at hx<;>cases hx
     rename_i l2 hl2
     have hlen:=RL.len _ _ e2
     simp only [List.length_map,Array.length_toList] at hlen
     have hsz:bW l 0=s.size:=by rw [wH,Nat.add_zero,←hlen]; rfl
     rw [hsz] at hb
     obtain ⟨hrun,hle,hle2⟩:=kO (P:=P) (w:=w) (len:=s.size) (cap:=s.size) hb (by omega) ht hlo hhi false
     refine jS (s:=Instr.sliceAt t (a.eval y) (lo.map a.eval) (hi.map a.eval) (Option.map a.eval none)) (by simp only [execOp,ho]) (v:=.string (s.extract p q)) ?_ (jSe ?_)
     ·simp [Instr.sliceAt,Instr.slice,run_underlying hu,e1,hrun]
     ·rw [qP] at hl2
      obtain ⟨rfl,_⟩:=zH _ _ _ hl2
      have:=(e2.drop p).take (q - p)
      have e5:(s.extract p q).data.toList=(s.data.toList.drop p).take (q - p):=by simp
      rw [e5,List.map_take,List.map_drop]
      exact this
    rename_i n v he
    rw [he] at h1
    obtain ⟨s,e1,e2,e3⟩:=h1
    split at hx<;>first | (cases hx; done) | skip
    rename_i p q hb
    rw [gL] at hx
    cases hx
    obtain ⟨hrun,hle,hle2⟩:=kO (P:=P) (w:=w) (len:=n) (cap:=s.size) hb (by omega) ht hlo hhi false
    rw [←e2] at hrun hle2
    refine jS (s:=Instr.sliceAt t (a.eval y) (lo.map a.eval) (hi.map a.eval) (Option.map a.eval none)) (by simp only [execOp,ho]) (v:=.string (s.extract p q)) ?_ ⟨_,rfl,?_,?_⟩
    ·simp [Instr.sliceAt,Instr.slice,run_underlying hu,e1,hrun]
    ·show _=q - p
     simp; omega
    ·have:(s.extract p q).data.toList=(s.data.toList.drop p).take (q - p):=by
      simp [ByteArray.data_extract,List.extract_eq_take_drop]
     rw [this,jUs,jEs,e3]
     rfl
   ·rename_i e y' lo' hi' hu hy hlo hhi
    split at hc<;>cases hc
    rename_i n hn
    have h1:=jJ hy ht
    simp only [jM,xT,xBd,xLd,xNc,xBe,xCi,xBt,fY,xCs,xSs,gA,xSl,fZ,xFa,xFd,xIa,xIq,xIx,xIv,xEx,xLn,xMx,xMn,jU] at hx
    split at hx
    ·rename_i he
     rw [he] at h1
     have e1:a.eval y = .slice none 0 0:=h1
     split at hx<;>cases hx
     rename_i p hb
     obtain ⟨hrun,hle,hle2⟩:=kO (P:=P) (w:=w) (len:=0) (cap:=0) hb (by omega) ht hlo hhi true
     refine jS (s:=Instr.sliceAt t (a.eval y) (lo.map a.eval) (hi.map a.eval) (Option.map a.eval none)) (by simp only [execOp,ho]) (v:=.slice none 0 0) ?_ rfl
     have e0:p.1=0:=by omega
     have e00:p.2=0:=by omega
     simp [Instr.sliceAt,Instr.slice,run_underlying hu,e1,hrun,run_sizeOf hn,e0,e00]
    ·rename_i b off len sz he
     rw [he] at h1
     split at hx<;>first | (cases hx; done) | skip
     rename_i hsz
     obtain rfl:n=sz:=by simpa using hsz
     split at hx<;>first | (cases hx; done) | skip
     rename_i p q hb
     rcases h1 with ⟨e0,e00,ad,cap,e1,hcap⟩ | ⟨g,cap,hg,e1,hlen,hcap,htot⟩
     ·subst e00
      obtain ⟨hrun,hle,hle2⟩:=kO (P:=P) (w:=w) (len:=0) (cap:=cap) hb (by omega) ht hlo hhi true
      obtain rfl:p=0:=by omega
      obtain rfl:q=0:=by omega
      simp only [Nat.beq_refl,if_true,Option.some.injEq] at hx; subst hx
      subst e0
      refine jS (s:=Instr.sliceAt t (a.eval y) (lo.map a.eval) (hi.map a.eval) (Option.map a.eval none)) (by simp only [execOp,ho]) (v:=.slice (if cap=0 then some ad else some (ad.add (0*n))) (0 - 0) (cap - 0)) ?_ (.inl ⟨rfl,rfl,if cap=0 then ad else ad.add (0*n),cap,by split<;>simp,hcap⟩)
      simp [Instr.sliceAt,Instr.slice,run_underlying hu,e1,hrun,run_sizeOf hn]
     ·obtain ⟨hrun,hle,hle2⟩:=kO (P:=P) (w:=w) (len:=len) (cap:=cap) hb hlen ht hlo hhi true
      refine jS (s:=Instr.sliceAt t (a.eval y) (lo.map a.eval) (hi.map a.eval) (Option.map a.eval none)) (by simp only [execOp,ho]) (v:=.slice (if cap=p then some ⟨g.c,off,none⟩ else some ((⟨g.c,off,none⟩:Addr).add (p*n))) (q - p) (cap - p)) ?_ ?_
      ·simp [Instr.sliceAt,Instr.slice,run_underlying hu,e1,hrun,run_sizeOf hn]
      ·split at hx
       ·rename_i hpq
        obtain rfl:p=q:=by simpa using hpq
        split at hx
        ·rename_i hp0
         obtain rfl:p=0:=by simpa using hp0
         cases hx
         refine .inr ⟨g,cap,hg,?_,by omega,by omega,htot⟩
         rw [fE]
         simp
        cases hx
        refine .inl ⟨rfl,rfl,(if cap=p then ⟨g.c,off,none⟩ else ((⟨g.c,off,none⟩:Addr).add (p*n))),cap - p,?_,by omega⟩
        rw [Nat.sub_self]
        split<;>rfl
       ·rename_i hpq
        have hpq':p≠q:=by simpa using hpq
        cases hx
        refine .inr ⟨g,cap - p,hg,?_,by omega,by omega,?_⟩
        ·rw [if_neg (by omega),fE]
        ·rw [←htot,Nat.sub_mul]
         have:p*n≤cap*n:=Nat.mul_le_mul_right _ (by omega)
         omega
    ·cases hx
   ·cases hc
 case fieldAddr t y f=>
  simp only [qO,ho] at hc
  split at hc
  ·rename_i fs y' hu hy
   split at hc<;>first | (cases hc; done) | skip
   rename_i fd hf
   split at hc<;>first | (cases hc; done) | skip
   rename_i n hn
   split at hc<;>cases hc
   rename_i hnz
   have hnz':n≠0:=by simpa using hnz
   have h1:=jJ hy ht
   simp only [jM,xT,xBd,xLd,xNc,xBe,xCi,xBt,fY,xCs,xSs,gA,xSl,fZ,xFa,xFd,xIa,xIq,xIx,xIv,xEx,xLn,xMx,xMn,jU] at hx
   split at hx<;>cases hx
   rename_i b off hb
   rw [hb] at h1
   obtain ⟨g,hg,he⟩:=h1
   exact jS (s:=Instr.fieldAt t (a.eval y) f) (by simp only [execOp,ho]) (v:=.pointer (some ⟨g.c,off+fd.offset,none⟩)) (by simp [Instr.fieldAt,run_underlying hu,hf,he,Instr.sureAddr,fieldPlace,run_sizeOf hn,hnz',fE]) ⟨g,hg,rfl⟩
  ·cases hc
 case field t y f=>
  simp only [qO,ho] at hc
  split at hc
  ·rename_i fs y' hu hy
   split at hc<;>first | (cases hc; done) | skip
   rename_i fd hf
   split at hc<;>cases hc
   rename_i n hn
   have h1:=jJ hy ht
   simp only [jM,xT,xBd,xLd,xNc,xBe,xCi,xBt,fY,xCs,xSs,gA,xSl,fZ,xFa,xFd,xIa,xIq,xIx,xIv,xEx,xLn,xMx,xMn] at hx
   split at hx<;>first | (cases hx; done) | skip
   rename_i l hl
   rw [hl] at h1
   obtain ⟨cs,e1,e2⟩:=h1
   obtain ⟨v,hv,hrv⟩:=jSm (w:=w) hn e2 hx
   exact jS (s:=Instr.field t (a.eval y) f) (by simp only [execOp,ho]) (v:=v) (by simp [Instr.field,run_underlying hu,hf,e1,asAgg,hv]) hrv
  ·cases hc
 case indexAddr t y i=>
  simp only [qO,ho] at hc
  split at hc
  ·rename_i e y' i' hu hy hi
   split at hc<;>cases hc
   rename_i n hn
   have h1:=jJ hy ht
   have h2:=jJ hi ht
   simp only [jM,xT,xBd,xLd,xNc,xBe,xCi,xBt,fY,xCs,xSs,gA,xSl,fZ,xFa,xFd,xIa,xIq,xIx,xIv,xEx,xLn,xMx,xMn,jU] at hx
   split at hx<;>first | (cases hx; done) | skip
   rotate_left
   ·rename_i l k hl hk
    rw [hl] at h1
    obtain ⟨kd,e2⟩:=fR hk h2
    split at hx<;>first | (cases hx; done) | skip
    rename_i hz1
    have hz1:n=1:=Nat.eq_of_beq_eq_true hz1
    subst hz1
    split at hx<;>cases hx
    rename_i z hz
    rw [wL] at hz
    have hlt':k<l.length:=(List.getElem?_eq_some_iff.1 hz).1
    obtain ⟨a0,c,e1,hA⟩:=h1
    obtain ⟨bk,of,cs,e,fz,ea,hh,hc⟩:=hA (by intro q; subst q; simp at hlt')
    subst ea
    exact jS (s:=Instr.indexAt t (a.eval y) (a.eval i)) (by simp only [execOp,ho]) (v:=.pointer (some ⟨bk,of+k*1,none⟩)) (by simp [Instr.indexAt,e1,e2,asIntOf,run_underlying hu,hlt',run_sizeOf hn,fE]) ⟨bk,of+k*1,cs,e,fz,rfl,hh,by rw [Nat.mul_one]; exact hc k z hz⟩
   rename_i b off len sz k hl hk
   rw [hl] at h1
   obtain ⟨kd,e2⟩:=fR hk h2
   split at hx<;>cases hx
   rename_i hlt
   have hlt':k<len:=by simpa using hlt
   rcases h1 with ⟨_,e00,_⟩ | ⟨g,cap,hg,e1,_⟩
   ·omega
   ·exact jS (s:=Instr.indexAt t (a.eval y) (a.eval i)) (by simp only [execOp,ho]) (v:=.pointer (some ⟨g.c,off+k*n,none⟩)) (by simp [Instr.indexAt,e1,e2,asIntOf,run_underlying hu,hlt',run_sizeOf hn,fE]) ⟨g,hg,rfl⟩
  ·rename_i len e y' i' hu hy hi
   split at hc<;>cases hc
   rename_i n hn
   have h1:=jJ hy ht
   have h2:=jJ hi ht
   simp only [jM,xT,xBd,xLd,xNc,xBe,xCi,xBt,fY,xCs,xSs,gA,xSl,fZ,xFa,xFd,xIa,xIq,xIx,xIv,xEx,xLn,xMx,xMn,jU] at hx
   split at hx<;>first | (cases hx; done) | skip
   rename_i b off k hl hk
   rw [hl] at h1
   obtain ⟨kd,e2⟩:=fR hk h2
   obtain ⟨g,hg,e1⟩:=h1
   split at hx<;>cases hx
   rename_i hlt
   have hlt':k<len:=by simpa using hlt
   exact jS (s:=Instr.indexAt t (a.eval y) (a.eval i)) (by simp only [execOp,ho]) (v:=.pointer (some ⟨g.c,off+k*n,none⟩)) (by simp [Instr.indexAt,e1,e2,asIntOf,run_underlying hu,hlt',run_sizeOf hn,fE,Instr.sureAddr]) ⟨g,hg,rfl⟩
  ·cases hc
 case index t y i=>
  simp only [qO,ho] at hc
  split at hc
  ·rename_i y' i' hu hy hi
   cases hc
   have h1:=jJ hy ht
   have h2:=jJ hi ht
   simp only [jM,xT,xBd,xLd,xNc,xBe,xCi,xBt,fY,xCs,xSs,gA,xSl,fZ,xFa,xFd,xIa,xIq,xIx,xIv,xEx,xLn,xMx,xMn,jU] at hx
   split at hx<;>first | (cases hx; done) | skip
   rotate_left
   ·rename_i l k hl hk
    rw [hl] at h1
    obtain ⟨s,e1,e3⟩:=h1
    obtain ⟨kd,e2⟩:=fR hk h2
    rw [wL] at hx
    obtain ⟨v,hv,hrv⟩:=RL.nth _ _ e3 _ _ hx
    rw [List.getElem?_map,Option.map_eq_some_iff] at hv
    obtain ⟨b,hbl,rfl⟩:=hv
    have hk':k<s.size:=by
     have:=(List.getElem?_eq_some_iff.1 hbl).1
     simpa using this
    have hb':s[k]?=some s[k]:=getElem?_pos s k hk'
    have hbl2:s.data.toList[k]?=some s[k]:=by
     rw [List.getElem?_eq_getElem (by simpa using hk')]; rfl
    rw [hbl2] at hbl
    cases hbl
    exact jS (s:=Instr.index t (a.eval y) (a.eval i)) (by simp only [execOp,ho]) (v:=.int .u8 s[k].toNat) (by simp [Instr.index,e1,e2,asIntOf,run_underlying hu,hb']) hrv
   rename_i n v k hl hk
   rw [hl] at h1
   obtain ⟨s,e1,e3,e4⟩:=h1
   obtain ⟨kd,e2⟩:=fR hk h2
   split at hx<;>cases hx
   rename_i hlt
   have hk':k<s.size:=by rw [e3]; simpa using hlt
   have hb':s[k]?=some s[k]:=getElem?_pos s k hk'
   have hbl:s.data.toList[k]?=some s[k]:=by
    rw [List.getElem?_eq_getElem (by simpa using hk')]; rfl
   refine jS (s:=Instr.index t (a.eval y) (a.eval i)) (by simp only [execOp,ho]) (v:=.int .u8 s[k].toNat) (by simp [Instr.index,e1,e2,asIntOf,run_underlying hu,hb']) ?_
   show _=_
   rw [←jAo hbl,e4]
   rfl
  ·rename_i len e y' i' hu hy hi
   split at hc<;>cases hc
   rename_i n g hn hg
   have h1:=jJ hy ht
   have h2:=jJ hi ht
   simp only [jM,xT,xBd,xLd,xNc,xBe,xCi,xBt,fY,xCs,xSs,gA,xSl,fZ,xFa,xFd,xIa,xIq,xIx,xIv,xEx,xLn,xMx,xMn] at hx
   split at hx<;>first | (cases hx; done) | skip
   rename_i l k hl hk
   rw [hl] at h1
   obtain ⟨cs,e1,e3⟩:=h1
   obtain ⟨kd,e2⟩:=fR hk h2
   split at hx<;>first | (cases hx; done) | skip
   rename_i hlt
   have hlt':k<len:=by simpa using hlt
   obtain ⟨v,hv,hrv⟩:=jSm (P:=P) (w:=w) (t:=e) (n:=if g then some n else none) (by unfold dT; rw [hg,hn]; cases g<;>rfl) e3 hx
   exact jS (s:=Instr.index t (a.eval y) (a.eval i)) (by simp only [execOp,ho]) (v:=v) (by simp [Instr.index,e1,e2,asIntOf,run_underlying hu,hlt',run_sizeOf hn,hv]) hrv
  ·cases hc
 case makeInterface t y=>
  simp only [qO,ho] at hc
  split at hc<;>cases hc
  rename_i u y' hne hu hy
  have h1:=jJ hy ht
  simp only [jM,Option.some.injEq] at hx; subst hx
  refine jS (s:=Instr.makeInterface t (a.eval y)) (by simp only [execOp,ho]) (v:=.iface t (a.eval y)) ?_ ⟨_,rfl,h1⟩
  unfold Instr.makeInterface
  simp only [Sem.run_bind,run_underlying hu,Result.andThen_ok]
  rfl
 case typeAssert y xt t ok=>
  cases ok<;>simp only [qO,ho] at hc
  ·split at hc<;>cases hc
   rename_i u y' hne hu hy
   have h1:=jJ hy ht
   simp only [jM,xTa] at hx
   split at hx<;>first | (cases hx; done) | skip
   rename_i ti vi hl
   split at hx<;>cases hx
   rename_i heq
   obtain rfl:=Nat.eq_of_beq_eq_true heq
   rw [hl] at h1
   obtain ⟨v,e1,hv⟩:=h1
   refine jS (s:=Instr.typeAssert (a.eval y) xt ti false) (by simp only [execOp,ho]) (v:=v) ?_ hv
   rw [show a.eval y = .iface ti v from e1]
   unfold Instr.typeAssert
   simp only [Sem.run_bind,run_underlying hu,Result.andThen_ok]
   cases u<;>first | exact absurd rfl (hne _) | simp
  ·split at hc<;>cases hc
   rename_i u z' y' hne hu hz hy
   have h1:=jJ hy ht
   have hzv:∃ zv,(zeroValue t).run P w = .ok zv w∧RV μ j z' zv:=by
    unfold qGf at hz
    split at hz<;>first | (cases hz; done) | skip
    rename_i i hi
    split at hz<;>first | (cases hz; done) | skip
    rename_i zv hzv
    exact ⟨zv,by simp [zeroValue,typeInfo,hi,hzv],jPv hz⟩
   obtain ⟨zv,hzr,hzv⟩:=hzv
   simp only [jM,xTk] at hx
   split at hx<;>first | (cases hx; done) | skip
   ·rename_i ti vi hl
    rw [hl] at h1
    obtain ⟨v,e1,hv⟩:=h1
    cases hx
    by_cases heq:ti=t
    ·have hb:Nat.beq ti t=true:=by simpa using heq
     refine jS (s:=Instr.typeAssert (a.eval y) xt t true) (by simp only [execOp,ho]) (v:=.tuple #[v,.bool true]) ?_ (by rw [hb]; exact ⟨_,rfl,_,_,rfl,hv,_,_,rfl,rfl,rfl⟩)
     rw [e1]
     unfold Instr.typeAssert
     simp only [Sem.run_bind,run_underlying hu,Result.andThen_ok]
     cases u<;>first | exact absurd rfl (hne _) | simp [heq]
    ·have hb:Nat.beq ti t=false:=Bool.eq_false_iff.mpr fun h=>heq (Nat.eq_of_beq_eq_true h)
     refine jS (s:=Instr.typeAssert (a.eval y) xt t true) (by simp only [execOp,ho]) (v:=.tuple #[zv,.bool false]) ?_ (by rw [hb]; exact ⟨_,rfl,_,_,rfl,hzv,_,_,rfl,rfl,rfl⟩)
     rw [e1]
     unfold Instr.typeAssert
     simp only [Sem.run_bind,run_underlying hu,Result.andThen_ok]
     cases u<;>first | exact absurd rfl (hne _) | simp [heq,hzr]
   ·rename_i hl
    rw [hl] at h1
    have e1:a.eval y = .nilIface:=h1
    cases hx
    refine jS (s:=Instr.typeAssert (a.eval y) xt t true) (by simp only [execOp,ho]) (v:=.tuple #[zv,.bool false]) ?_ ⟨_,rfl,_,_,rfl,hzv,_,_,rfl,rfl,rfl⟩
    rw [e1]
    unfold Instr.typeAssert
    simp only [Sem.run_bind,run_underlying hu,Result.andThen_ok]
    cases u<;>first | exact absurd rfl (hne _) | simp [hzr]
 case extract y i=>
  simp only [qO,ho] at hc
  split at hc<;>cases hc
  rename_i y' hy
  have h1:=jJ hy ht
  simp only [jM,xT,xBd,xLd,xNc,xBe,xCi,xBt,fY,xCs,xSs,gA,xSl,fZ,xFa,xFd,xIa,xIq,xIx,xIv,xEx,xLn,xMx,xMn,wL] at hx
  split at hx<;>first | (cases hx; done) | skip
  rename_i l hl
  rw [hl] at h1
  obtain ⟨cs,e1,e3⟩:=h1
  obtain ⟨v,hv,hrv⟩:=jOf e3 hx
  exact jS (s:=Instr.extract (a.eval y) i) (by simp only [execOp,ho]) (v:=v) (by simp [Instr.extract,e1,hv]) hrv
 case call cl=>
  obtain ⟨callee,args,argTypes⟩:=cl
  cases callee with
  | invoke r m=>
   simp only [qO,ho] at hc
   (repeat' split at hc)<;>first | (cases hc; done) | (cases hc; simp only [jM] at hx; cases hx; done)
  | value f=>
   cases f with
   | func f=>
    simp only [qO,ho] at hc
    split at hc<;>first | (cases hc; done) | skip
    rename_i xs hxs
    obtain ⟨v,h1,h2⟩:=qGw (w:=w) hc (wN hxs ht) hx
    have e:(args.toList.map a.eval).toArray=args.map a.eval:=by rw [←Array.toList_map,Array.toArray_toList]
    rw [e] at h1
    exact ⟨v,by simp [execOp,ho,resolve,Act.eval,Deferred.ofValue,invoke,h1],h2⟩
   | _=>simp only [qO,ho] at hc<;>(repeat' split at hc)<;>first | (cases hc; done) | (cases hc; simp only [jM] at hx; cases hx; done)
  | builtin bi=>
   cases bi<;>simp only [qO,ho] at hc<;>first | (cases hc; done) | skip
   case append=>
    split at hc<;>first | (cases hc; done) | skip
    rename_i t t' y z hat har
    have hat':argTypes = #[t,t']:=by rw [←Array.toList_inj]; exact hat
    have har':args = #[y,z]:=by rw [←Array.toList_inj]; exact har
    subst hat'; subst har'
    split at hc
    ·(repeat' split at hc)<;>first | (cases hc; done) | (cases hc; simp only [jM] at hx; cases hx; done)
    ·split at hc<;>first | (cases hc; done) | skip
     ·split at hc<;>cases hc
      simp only [jM] at hx; cases hx
     ·rename_i e kt y' z' hu hu' hy hz
      split at hc<;>cases hc
      rename_i sz hsz
      exact qKj hr ht ho hu hu' hsz hy hz hx
   case cap=>
    split at hc<;>first | (cases hc; done) | skip
    rename_i t y hat har
    have hat':argTypes = #[t]:=by rw [←Array.toList_inj]; exact hat
    have har':args = #[y]:=by rw [←Array.toList_inj]; exact har
    subst hat'; subst har'
    split at hc<;>cases hc
    rename_i e y' hu hy
    have h1:=jJ hy ht
    simp only [jM,xCn] at hx
    split at hx<;>cases hx
    rename_i hl
    rw [hl] at h1
    have e1:a.eval y = .slice none 0 0:=h1
    exact ⟨.int .i64 0,by simp [execOp,ho,resolve,invoke,builtin,Builtin.cap_,run_underlying hu,e1,goInt],rfl⟩
   case copy=>
    split at hc<;>first | (cases hc; done) | skip
    rename_i t t' y z hat har
    have hat':argTypes = #[t,t']:=by rw [←Array.toList_inj]; exact hat
    have har':args = #[y,z]:=by rw [←Array.toList_inj]; exact har
    subst hat'; subst har'
    split at hc<;>first | (cases hc; done) | skip
    rename_i e e' y' z' hu hu' hy hz
    split at hc<;>cases hc
    rename_i sz hsz
    have h1:=jJ hy ht
    have h2:=jJ hz ht
    have fin:∀ A n c,a.eval y = .slice A n c→a.eval z = .slice none 0 0→∃ v,(execOp a.eval o).run P w = .ok (.value v) w∧RV μ j (.i .i64 0) v:=by
     intro A n c e1 e2
     refine ⟨.int .i64 0,?_,rfl⟩
     have hm:Nat.min 0 n=0:=by simp
     cases A<;>simp [execOp,ho,resolve,invoke,builtin,Builtin.copy_,run_underlying hu,e1,e2,goInt,Builtin.lenOf,hm,run_sizeOf hsz,Builtin.firstCells,storeCells]
    simp only [jM,xCy] at hx
    split at hx<;>cases hx
    ·rename_i b off n s hl hl2
     rw [hl] at h1
     rw [hl2] at h2
     rcases h1 with ⟨_,rfl,ad,cap,e1,_⟩ | ⟨g,cap,_,e1,_⟩
     ·exact fin _ _ _ e1 h2
     ·exact fin _ _ _ e1 h2
    ·rename_i hl hl2
     rw [hl] at h1
     rw [hl2] at h2
     exact fin _ _ _ h1 h2
   case unsafeString=>(repeat' split at hc)<;>first | (cases hc; done) | (cases hc; simp only [jM] at hx; cases hx; done)
   case unsafeSliceData=>
    split at hc<;>first | (cases hc; done) | skip
    rename_i y har
    have har':args = #[y]:=by rw [←Array.toList_inj]; exact har
    subst har'
    split at hc<;>cases hc
    rename_i y' hy
    have h1:=jJ hy ht
    simp only [jM,xSd] at hx
    split at hx
    ·rename_i hl
     rw [hl] at h1
     have e1:a.eval y = .slice none 0 0:=h1
     cases hx
     exact ⟨.pointer none,by simp [execOp,ho,resolve,invoke,builtin,e1,Lib.run_unsafeSliceData_nil],rfl⟩
    ·rename_i b off n sz hl
     rw [hl] at h1
     split at hx<;>cases hx
     rename_i hn
     have hn':n≠0:=by simpa using hn
     rcases h1 with ⟨_,e0,_⟩ | ⟨g,cap,hg,e1,hle,_⟩
     ·exact absurd e0 hn'
     ·exact ⟨.pointer (some ⟨g.c,off,none⟩),by simp [execOp,ho,resolve,invoke,builtin,e1,Lib.run_unsafeSliceData_row _ _ _ _ _ _ (show cap≠0 by omega)],g,hg,rfl⟩
    ·cases hx
   case len=>
    split at hc
    ·rename_i t y hat har
     have hat':argTypes = #[t]:=by rw [←Array.toList_inj]; exact hat
     have har':args = #[y]:=by rw [←Array.toList_inj]; exact har
     subst hat'; subst har'
     have fin:∀ (n:Nat),(Builtin.len_ #[t] o.type #[a.eval y]).run P w = .ok (.int .i64 n) w→∃ v,(execOp a.eval o).run P w = .ok (.value v) w∧RV μ j (.i .i64 n) v:=by
      intro n h
      exact ⟨.int .i64 n,by simp [execOp,ho,resolve,invoke,builtin,h],rfl⟩
     split at hc<;>cases hc
     ·rename_i y' hu hy
      have h1:=jJ hy ht
      simp only [jM,xLn,jU] at hx
      split at hx<;>cases hx
      rotate_left
      ·rename_i l hl
       rw [hl] at h1
       obtain ⟨s,e1,e2⟩:=h1
       have hlen:=RL.len _ _ e2
       simp only [List.length_map,Array.length_toList] at hlen
       have hsz:bW l 0=s.size:=by rw [wH,Nat.add_zero,←hlen]; rfl
       refine fin _ ?_
       simp [Builtin.len_,run_underlying hu,e1,goInt,hsz]
      rename_i n v hl
      rw [hl] at h1
      obtain ⟨s,e1,e2,_⟩:=h1
      refine fin _ ?_
      simp [Builtin.len_,run_underlying hu,e1,goInt,e2]
     ·rename_i y' hu hy
      have h1:=jJ hy ht
      simp only [jM,xLm] at hx
      split at hx<;>cases hx
      ·rename_i hl
       rw [hl] at h1
       have e1:a.eval y = .slice none 0 0:=h1
       refine fin 0 ?_
       simp [Builtin.len_,run_underlying hu,e1,goInt]
      ·rename_i b off n sz hl
       rw [hl] at h1
       have e1:∃ A cap,a.eval y = .slice A n cap:=by
        rcases h1 with ⟨_,rfl,ad,cap,e1,_⟩ | ⟨g,cap,_,e1,_⟩<;>exact ⟨_,_,e1⟩
       obtain ⟨A,cap,e1⟩:=e1
       refine fin n ?_
       simp [Builtin.len_,run_underlying hu,e1,goInt]
      ·rename_i k q lo hi hl
       rw [hl] at h1
       obtain ⟨e0,A,n,c,e1,e2,g1,g2⟩:=h1
       exact ⟨.int .i64 n,by simp [execOp,ho,resolve,invoke,builtin,Builtin.len_,run_underlying hu,e1,goInt],n,e2,rfl,by omega,by omega⟩
      ·rename_i l hl
       rw [hl] at h1
       obtain ⟨A,c,e1,_⟩:=h1
       refine fin (bW l 0) ?_
       rw [wH,Nat.add_zero]
       simp [Builtin.len_,run_underlying hu,e1,goInt]
    ·cases hc
   case max=>
    split at hc<;>first | (cases hc; done) | skip
    rename_i y z har
    have har':args = #[y,z]:=by rw [←Array.toList_inj]; exact har
    subst har'
    split at hc<;>cases hc
    rename_i y' z' hy hz
    have h1:=jJ hy ht
    have h2:=jJ hz ht
    simp only [jM,xMx,wJ] at hx
    split at hx<;>first | (cases hx; done) | skip
    rename_i k p k' q hp hq
    rw [hp] at h1
    rw [hq] at h2
    split at hx<;>cases hx
    rename_i hk
    obtain rfl:=fJ hk
    refine ⟨.int k (if q > p then q else p),?_,?_⟩
    ·simp [execOp,ho,resolve,invoke,builtin,Builtin.max_,Builtin.max2,show a.eval y = .int k p from h1,show a.eval z = .int k q from h2]
    ·show _=_
     by_cases e:p<q<;>simp [e]
   case min=>
    split at hc<;>first | (cases hc; done) | skip
    rename_i y z har
    have har':args = #[y,z]:=by rw [←Array.toList_inj]; exact har
    subst har'
    split at hc<;>cases hc
    rename_i y' z' hy hz
    have h1:=jJ hy ht
    have h2:=jJ hz ht
    simp only [jM,xMn,wJ] at hx
    split at hx<;>first | (cases hx; done) | skip
    rename_i k p k' q hp hq
    rw [hp] at h1
    rw [hq] at h2
    split at hx<;>cases hx
    rename_i hk
    obtain rfl:=fJ hk
    refine ⟨.int k (if q<p then q else p),?_,?_⟩
    ·simp [execOp,ho,resolve,invoke,builtin,Builtin.min_,Builtin.min2,show a.eval y = .int k p from h1,show a.eval z = .int k q from h2]
    ·show _=_
     by_cases e:q<p<;>simp [e]
 case next y isS=>
  cases isS<;>simp only [qO,ho] at hc
  ·cases hc
  ·split at hc<;>cases hc
   cases hx
 case range t y=>
  simp only [qO,ho] at hc
  split at hc<;>cases hc
  cases hx
 case panic y=>
  simp only [qO,ho] at hc
  split at hc<;>cases hc
  cases hx
 case makeMap t r=>
  simp only [qO,ho] at hc
  (repeat' split at hc)<;>first | (cases hc; done) | (cases hc; simp only [jM] at hx; cases hx; done)
 case lookup t y z ok=>
  simp only [qO,ho] at hc
  split at hc<;>first | (cases hc; done) | skip
  rename_i kt e hu
  split at hc<;>first | (cases hc; done) | skip
  rename_i z0 y' z' hk hz hy hzz
  cases hc
  exact qLk hr ht ho hu hk hz hy hzz hx
 case mapUpdate t y z v=>
  simp only [qO,ho] at hc
  (repeat' split at hc)<;>first | (cases hc; done) | (cases hc; simp only [jM] at hx; cases hx; done)
 case makeSlice t y z=>
  simp only [qO,ho] at hc
  (repeat' split at hc)<;>first | (cases hc; done) | (cases hc; simp only [jM] at hx; cases hx; done)
 all_goals (simp only [qO,ho] at hc; cases hc)
end
end
end Go.Proofs.YtngfdcnglojcaaaGreatDoor.Ev
