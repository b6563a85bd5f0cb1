/-
Plain laws: what the document's own functions of scalars compute is what the program's compute (rows of a plain scalar, quotes, code points). No program is named here.
-/
import Derived.Test.YtdlhiljbhepliaaGreatDoorPsK
import Derived.Lib.DecodeN
import Derived.Laws.RangeAny
namespace Go.Proofs.YtdlhiljbhepliaaGreatDoor
noncomputable section
set_option linter.all false
open Go.RowKit
def dbl (b:UInt8):List UInt8:=if b=39 then [39,39] else [b]
theorem kN (b:UInt8) (l:List UInt8):Lib.index (b::l) [39]=if b=39 then 0 else if Lib.index l [39] = -1 then -1 else Lib.index l [39]+1:=by
 rw [show Lib.index (b::l) [39]=if ([39]:List UInt8).isPrefixOf (b::l)=true then 0 else if (Lib.index l [39] == -1)=true then -1 else Lib.index l [39]+1 from rfl]
 by_cases h:b=39
 ·subst h; rfl
 ·rw [if_neg h,if_neg (by simp [List.isPrefixOf]; exact fun e=>h e.symm)]
  by_cases h2:Lib.index l [39] = -1
  ·rw [if_pos (beq_iff_eq.2 h2),if_pos h2]
  ·rw [if_neg (fun e=>h2 (beq_iff_eq.1 e)),if_neg h2]
theorem jRc (b:UInt8) (l:List UInt8):Lib.count (b::l) [39]=if b=39 then Lib.count l [39]+1 else Lib.count l [39]:=by
 by_cases h:b=39
 ·rw [if_pos h,Lib.count_hit (i:=0) (by decide) (by rw [kN,if_pos h]; rfl)]
  show 1+Lib.count ((b::l).drop 1) [39]=_;rw [List.drop_succ_cons,List.drop_zero,Nat.add_comm]
 ·rw [if_neg h];have hg:=Lib.index_ge l [39];by_cases h2:Lib.index l [39] = -1
  ·rw [Lib.count_miss h2,Lib.count_miss (by rw [kN,if_neg h,if_pos h2])]
  ·obtain ⟨i,hi⟩:∃ i:Nat,Lib.index l [39]=i:=⟨(Lib.index l [39]).toNat,by omega⟩
   rw [Lib.count_hit (i:=i) (by decide) hi,Lib.count_hit (i:=i+1) (by decide) (by rw [kN,if_neg h,if_neg h2,hi]; rfl)]
   show 1+Lib.count ((b::l).drop (i+1+1)) [39]=1+Lib.count (l.drop (i+1)) [39];rw [List.drop_succ_cons]
theorem jSo (b:UInt8) (l:List UInt8) (h:b≠39) (k:Nat):Lib.replaceK [39] [39,39] k (b::l)=b::Lib.replaceK [39] [39,39] k l:=by
 cases k with
 | zero=>rfl
 | succ k=>
  have hg:=Lib.index_ge l [39];by_cases h2:Lib.index l [39] = -1
  ·have h3:Lib.index (b::l) [39] = -1:=by rw [kN,if_neg h,if_pos h2]
   simp [Lib.replaceK,h2,h3]
  ·obtain ⟨i,hi⟩:∃ i:Nat,Lib.index l [39]=i:=⟨(Lib.index l [39]).toNat,by omega⟩
   rw [Lib.replaceK_hit _ _ k l i hi,Lib.replaceK_hit _ _ k (b::l) (i+1) (by rw [kN,if_neg h,if_neg h2,hi]; rfl)]
   show (b::l).take (i+1)++[39,39]++Lib.replaceK _ _ k ((b::l).drop (i+1+1))=_;rw [List.take_succ_cons,List.drop_succ_cons];rfl
theorem oR:∀ l:List UInt8,Lib.replaceK [39] [39,39] (Lib.count l [39]) l=l.flatMap dbl
 | []=>rfl
 | b::l=>by
  rw [List.flatMap_cons,jRc];by_cases h:b=39
  ·subst h;rw [if_pos rfl,Lib.replaceK_hit _ _ _ _ 0 (by rw [kN,if_pos rfl]; rfl)]
   show []++[39,39]++Lib.replaceK _ _ _ ((39::l).drop 1)=_;rw [List.drop_succ_cons,List.drop_zero,oR l];rfl
  ·rw [if_neg h,jSo b l h,oR l,dbl,if_neg h];rfl
theorem jSp (s:ByteArray):pJ s=⟨(s.data.toList.flatMap dbl).toArray⟩:=by
 unfold pJ;rw [Lib.replaceAll,Lib.replace,if_neg (by decide),Lib.replaceNum,if_pos (.inl (by decide)),oR]
theorem jMw (s:ByteArray) (k i:Nat) (hi:0<i) (h:i<(Utf8.decode s k).2):128≤(s.get! (k+i)).toNat:=by
  revert h;unfold Utf8.decode;simp only [Nat.add_zero]
  repeat' split
  all_goals (intro h; simp only [] at h)
  all_goals first
    | omega
    | (rename_i hc _
       simp only [Bool.and_eq_true,beq_iff_eq,decide_eq_true_eq] at hc;rcases (show i=1∨i=2∨i=3 from by omega) with rfl | rfl | rfl<;>omega)
theorem iU (s:ByteArray) (k:Nat) (hk:k<s.size):(Utf8.decode s k).2≤s.size - k:=by
 unfold Utf8.decode;simp only
 repeat' split
 all_goals simp_all
 all_goals omega
theorem width_pos (s:ByteArray) (k:Nat):1≤(Utf8.decode s k).2:=by
 unfold Utf8.decode;simp only
 repeat' split
 all_goals simp_all
theorem jTw (s:ByteArray) (k:Nat) (h:k<s.size):bt s k=((s.get! k).toNat:Int):=by
 rw [xU s k h];cases s with
 | mk d=>exact congrArg (fun x:UInt8=>(x.toNat:Int)) (getElem!_pos d k h).symm
theorem qGt (s:ByteArray) (k i:Nat) (hk:k<s.size) (hi:0<i) (h:i<(Utf8.decode s k).2):128≤bt s (k+i):=by
 have h1:=jMw s k i hi h;have h2:=iU s k hk;rw [jTw s _ (by omega)]
 omega
theorem qHm (s:ByteArray) (k:Nat) (hk:k<s.size):(Utf8.decode s k).1=10↔bt s k=10:=by
 rw [xU s k hk];by_cases h:s[k].toNat<128
 ·rw [decode_ascii s k hk h];show s[k].toNat=10↔_;omega
 ·have:=(decode_high s k hk (by omega)).1
  omega
def jYs (r:Int):Bool:=r != 10
theorem jMc (s:ByteArray):∀ (f p:Nat),s.size≤p+f→(wB jYs s f p=true↔∀ x,p≤x→x<s.size→bt s x≠10)
 | 0,p,hf=>by
  simp only [wB,true_iff];intro x h1 h2;omega
 | f+1,p,hf=>by
  unfold wB;by_cases hp:p<s.size
  ·have hw:=width_pos s p;rw [if_pos hp];have hd:=qHm s p hp;by_cases h:bt s p=10
   ·rw [if_neg (by simp [jYs]; exact_mod_cast hd.2 h)]
    simp only [Bool.false_eq_true,false_iff];exact fun hx=>hx p (Nat.le_refl _) hp h
   ·rw [if_pos (by simp only [jYs,bne_iff_ne,ne_eq]; intro e; exact h (hd.1 (by exact_mod_cast e))),jMc s f _ (by omega)]
    refine ⟨fun hx x h1 h2=>?_,fun hx x h1 h2=>hx x (by omega) h2⟩
    rcases Nat.lt_or_ge x (p+(Utf8.decode s p).2) with h3 | h3
    ·rcases Nat.eq_or_lt_of_le h1 with h4 | h4
     ·subst h4; exact h
     ·have:=qGt s p (x - p) hp (by omega) (by omega)
      rw [show p+(x - p)=x by omega] at this
      omega
    ·exact hx x h3 h2
  ·rw [if_neg hp];simp only [true_iff];intro x h1 h2;omega
theorem aS (s:ByteArray) (x:Nat) (c:UInt8) (hx:x<s.size):bt s x=(c.toNat:Int)↔s.data.toList[x]?=some c:=by
 rw [xU s x hx];have e:s.data.toList[x]?=some s[x]:=List.getElem?_eq_getElem (l:=s.data.toList) (by simpa using hx)
 rw [e,Option.some.injEq];constructor
 ·intro h;exact UInt8.toNat_inj.1 (by exact_mod_cast h)
 ·rintro rfl; rfl
theorem jDn (s:ByteArray) (c:UInt8):eS s c=true↔∃ x,x<s.size∧bt s x=(c.toNat:Int):=by
 have hg:=Lib.indexByte_ge s.data.toList c;have hl:=fP s.data.toList c;have el:s.data.toList.length=s.size:=by simp
 rw [eS,decide_eq_true_eq];constructor
 ·intro h;obtain ⟨o,ho⟩:∃ o:Nat,Lib.indexByte s.data.toList c=o:=⟨(Lib.indexByte s.data.toList c).toNat,by omega⟩
  have h1:=(Lib.indexByte_some ho).1;have hlt:=(List.getElem?_eq_some_iff.1 h1).1;exact ⟨o,by omega,(aS s o c (by omega)).2 h1⟩
 ·rintro ⟨x,hx,h⟩;rcases Nat.lt_or_ge 0 1 with _ | h0
  ·by_cases hn:Lib.indexByte s.data.toList c = -1
   ·exact absurd ((aS s x c hx).1 h) (Lib.indexByte_none hn x)
   ·omega
  ·omega
theorem qPj (s:ByteArray):eS s 10 = !wB jYs s s.size 0:=by
 rw [Bool.eq_iff_iff,Bool.not_eq_true',jDn,Bool.eq_false_iff,Ne,jMc s s.size 0 (by omega)]
 constructor
 ·rintro ⟨x,hx,h⟩ hh;exact hh x (Nat.zero_le _) hx h
 ·intro h;refine Classical.byContradiction fun hn=>h fun x _ hx e=>hn ⟨x,hx,e⟩
theorem jMb (c d:Int→Bool) (s:ByteArray):∀ (f p:Nat),wB (fun r=>c r&&d r) s f p=(wB c s f p&&wB d s f p)
 | 0,p=>rfl
 | f+1,p=>by
  unfold wB;by_cases hp:p<s.size
  ·rw [if_pos hp,if_pos hp,if_pos hp,jMb c d s f];cases c ((Utf8.decode s p).1:Int)<;>cases d ((Utf8.decode s p).1:Int)<;>simp
  ·rw [if_neg hp,if_neg hp,if_neg hp]; rfl
theorem jPn (s:ByteArray):qN s=(jFt s && !eS s 10):=by
 unfold qN jFt;rw [show uX=(fun r=>jYs r&&zF r) from rfl,jMb,qPj];cases wB jYs s s.size 0<;>cases wB zF s s.size 0<;>cases decide (wY s<0)<;>rfl
def qDl (s:ByteArray) (flow:Bool):Bool:=xC s flow&&(uC s flow==s.size)&&qN s && !eS s 9 && !zW s ⟨#[45,45,45]⟩ && !zW s ⟨#[46,46,46]⟩
theorem jYy (s:ByteArray) (flow:Bool):qDl s flow=vA s flow:=by
 unfold qDl vA;rw [jPn];cases xC s flow<;>cases (uC s flow==s.size)<;>cases jFt s<;>cases eS s 10<;>cases eS s 9<;>cases zW s ⟨#[45,45,45]⟩<;>rfl
def vK (s:ByteArray) (flow:Bool):Nat→Nat→Nat
 | 0,p=>p
 | f+1,p=>if p<s.size∧bt s p≠10 then (if yJ s flow p=true then p else vK s flow f (p+1)) else p
theorem jZm (s:ByteArray) (flow:Bool) (p:Nat) (h:128≤bt s p):yJ s flow p=false:=by
 unfold yJ;rw [if_neg (by omega),if_neg (by omega)]
 have:zB (bt s p)=false:=by
  unfold zB;simp only [Bool.or_eq_false_iff,beq_eq_false_iff_ne];omega
 rw [this,Bool.and_false]
theorem jIr (s:ByteArray) (flow:Bool) (m:Nat) (hm:m≤s.size) (hl:∀ x,x<m→bt s x≠10):∀ (n g p:Nat),n≤g→p+n≤m→(∀ x,p≤x→x<p+n→yJ s flow x=false)→vK s flow g p=vK s flow (g - n) (p+n)
 | 0,g,p,_,_,_=>rfl
 | n+1,0,p,hg,_,_=>by omega
 | n+1,g+1,p,hg,hp,hx=>by
  rw [vK,if_pos ⟨by omega,hl p (by omega)⟩,if_neg (by rw [hx p (Nat.le_refl _) (by omega)]; decide),jIr s flow m hm hl n g (p+1) (by omega) (by omega) fun x h1 h2=>hx x (by omega) (by omega)]
  congr 1<;>omega
theorem jIg (s:ByteArray) (flow:Bool) (m:Nat) (hm:m≤s.size) (hl:∀ x,x<m→bt s x≠10) (he:m<s.size→bt s m=10):∀ (f g p:Nat),m≤p+f→m≤p+g→p≤m→dN s flow (s.extract 0 m) f p=vK s flow g p
 | 0,g,p,hf,hg,hp=>by
  have ep:p=m:=by omega
  subst ep;have et:(s.extract 0 p).size=p:=by simp; omega
  unfold dN;rw [et];cases g with
  | zero=>rfl
  | succ g=>
   unfold vK;rw [if_neg (fun h=>h.2 (he h.1))]
 | f+1,g,p,hf,hg,hp=>by
  have et:(s.extract 0 m).size=m:=by simp; omega
  unfold dN;by_cases hlt:p<m
  ·rw [if_pos (by rw [et]; exact hlt)]
   obtain ⟨g,rfl⟩:∃ k,g=k+1:=⟨g - 1,by omega⟩
   by_cases hs:yJ s flow p=true
   ·rw [if_pos hs,vK,if_pos ⟨by omega,hl p hlt⟩,if_pos hs]
   ·have h1:=width_pos (s.extract 0 m) p;have h2:=iU (s.extract 0 m) p (by rw [et]; exact hlt)
    rw [et] at h2;rw [if_neg hs,jIr s flow m hm hl (Utf8.decode (s.extract 0 m) p).2 (g+1) p (by omega) (by omega) fun x h3 h4=>?_]
    ·exact jIg s flow m hm hl he f _ _ (by omega) (by omega) (by omega)
    ·rcases Nat.eq_or_lt_of_le h3 with h5 | h5
     ·subst h5; exact Bool.not_eq_true _ ▸ hs
     ·refine jZm s flow x ?_;have h6:=jMw (s.extract 0 m) p (x - p) (by omega) (by omega)
      rw [show p+(x - p)=x by omega] at h6
      have h7:=jTw (s.extract 0 m) x (by rw [et]; omega)
      have h8:bt (s.extract 0 m) x=bt s x:=by
       rw [xU _ _ (by rw [et]; omega),xU s x (by omega)]
       congr 2
       rw [ByteArray.getElem_extract]
       congr 1
       omega
      omega
  ·have ep:p=m:=by omega
   subst ep;rw [if_neg (by rw [et]; omega),et]
   cases g with
   | zero=>rfl
   | succ g=>
    unfold vK;rw [if_neg (fun h=>h.2 (he h.1))]
theorem qCo (s:ByteArray):(∀ x,x<lfN s→bt s x≠10)∧(lfN s<s.size→bt s (lfN s)=10):=by
 have hg:=Lib.indexByte_ge s.data.toList 10;have hl:=fP s.data.toList 10;have el:s.data.toList.length=s.size:=by simp
 have h10:((10:UInt8).toNat:Int)=10:=rfl;unfold lfN;by_cases h:0≤Lib.indexByte s.data.toList 10
 ·rw [if_pos h];obtain ⟨o,ho⟩:∃ o:Nat,Lib.indexByte s.data.toList 10=o:=⟨(Lib.indexByte s.data.toList 10).toNat,by omega⟩
  obtain ⟨h1,h2⟩:=Lib.indexByte_some ho;have hlt:=(List.getElem?_eq_some_iff.1 h1).1;rw [ho,Int.toNat_natCast];exact ⟨fun x hx e=>h2 x hx ((aS s x 10 (by omega)).1 (by rw [e]; rfl)),fun _=>by have:=(aS s o 10 (by omega)).2 h1; rw [this]; rfl⟩
 ·rw [if_neg h];exact ⟨fun x hx e=>Lib.indexByte_none (by omega) x ((aS s x 10 hx).1 (by rw [e]; rfl)),fun h=>absurd h (Nat.lt_irrefl _)⟩
def zP (s:ByteArray) (flow:Bool):Nat:=qQ s (vK s flow s.size 0)
theorem jOr (s:ByteArray) (flow:Bool):zP s flow=uC s flow:=by
 unfold zP uC;have hm:=qCn s;obtain ⟨h1,h2⟩:=qCo s;by_cases h0:s.size=0
 ·rw [if_pos h0,h0];rfl
 ·rw [if_neg h0,jIg s flow (lfN s) hm h1 h2 (lfN s) s.size 0 (by omega) (by omega) (by omega)]
end
noncomputable section
set_option linter.all false
open Go.RowKit
def jDq (c:Int):Int:=if 48≤c∧c≤57 then c - 48 else if 97≤c∧c≤102 then c - 87 else if 65≤c∧c≤70 then c - 55 else -1
def dgt (m:Int) (c:UInt8):Bool:=decide (0≤jDq c.toNat)&&decide (jDq c.toNat<m)
theorem jTb {P:UInt8→Bool} (h:∀ n:Fin 256,P (UInt8.ofNat n.1)=true) (c:UInt8):P c=true:=by
 have:=h ⟨c.toNat,c.toNat_lt⟩
 rwa [UInt8.ofNat_toNat] at this
theorem aX (c:UInt8):dgt 10 c=dec.data.toList.contains c:=by
 have:=jTb (P:=fun c=>dgt 10 c==dec.data.toList.contains c) (by decide +kernel) c
 exact beq_iff_eq.1 this
theorem qHo (c:UInt8):dgt 8 c=oct.data.toList.contains c:=by
 have:=jTb (P:=fun c=>dgt 8 c==oct.data.toList.contains c) (by decide +kernel) c
 exact beq_iff_eq.1 this
theorem qHn (c:UInt8):dgt 16 c=jYh.data.toList.contains c:=by
 have:=jTb (P:=fun c=>dgt 16 c==jYh.data.toList.contains c) (by decide +kernel) c
 exact beq_iff_eq.1 this
theorem toL (s:ByteArray):s.toList=s.data.toList:=by
 obtain ⟨⟨l⟩⟩:=s;simp
def xX (s:ByteArray) (k:Nat) (m:Int):Nat:=((s.data.toList.drop k).takeWhile (dgt m)).length
def eF (s:ByteArray) (k:Nat) (kind:Int):Int:=
  if bt s k=101∨bt s k=69 then
    (if xX s (if bt s (k+1)=43∨bt s (k+1)=45 then k+2 else k+1) 10=0 then 0
     else if (if bt s (k+1)=43∨bt s (k+1)=45 then k+2 else k+1)+xX s (if bt s (k+1)=43∨bt s (k+1)=45 then k+2 else k+1) 10<s.size then 0 else 2)
  else if k<s.size then 0 else kind
def oI (s:ByteArray):Int:=
 if bt s (xX s 0 10)=46 then
  (if xX s 0 10=0∧xX s (xX s 0 10+1) 10=0 then 0 else eF s (xX s 0 10+1+xX s (xX s 0 10+1) 10) 2)
 else if xX s 0 10=0 then 0 else eF s (xX s 0 10) 1
def vO (s:ByteArray) (m:Int):Bool:=decide (0<xX s 2 m)&&decide (xX s 2 m=s.size - 2)
def iV (k:Int):ByteArray:=if k=1 then ⟨#[105,110,116]⟩ else if k=2 then ⟨#[102,108,111,97,116]⟩ else ⟨#[115,116,114]⟩
def qAu (s:ByteArray):ByteArray:=
 if Lib.containsS uY s=true then ⟨#[110,117,108,108]⟩ else if Lib.containsS uG s=true then ⟨#[98,111,111,108]⟩ else if Lib.containsS bM s=true then ⟨#[102,108,111,97,116]⟩
 else if 2<s.size∧((zW s ⟨#[48,111]⟩=true∧vO s 8=true)∨(zW s ⟨#[48,120]⟩=true∧vO s 16=true)) then ⟨#[105,110,116]⟩
 else if sS (uA s)=true then ⟨#[102,108,111,97,116]⟩ else iV (oI (uA s))
theorem bF (s:ByteArray) (k:Nat):bt s k=match s.data.toList[k]? with | some c=>(c.toNat:Int) | none=>256:=by
 by_cases h:k<s.size
 ·rw [xU s k h,List.getElem?_eq_getElem (l:=s.data.toList) (by simpa using h)]
  rfl
 ·rw [tP s k (by omega),List.getElem?_eq_none (by simp; omega)]
theorem gQ (p:UInt8→Bool):∀ l:List UInt8,l.drop (l.takeWhile p).length=l.dropWhile p
 | []=>rfl
 | b::l=>by
  by_cases h:p b=true
  ·rw [List.takeWhile_cons_of_pos h,List.dropWhile_cons_of_pos h,List.length_cons,List.drop_succ_cons,gQ p l]
  ·rw [List.takeWhile_cons_of_neg h,List.dropWhile_cons_of_neg h]; rfl
theorem bW (p:UInt8→Bool):∀ l:List UInt8,l.dropWhile p=[]↔∀ b,b∈l→p b=true
 | []=>by simp
 | b::l=>by
  by_cases h:p b=true
  ·rw [List.dropWhile_cons_of_pos h,bW p l];simp [h]
  ·rw [List.dropWhile_cons_of_neg h];simp [h]
theorem jZo (l cs:List UInt8):Lib.trimS l cs=[]↔l.dropWhile (cs.contains ·)=[]:=by
 unfold Lib.trimS Lib.trimLeftS Lib.trimRightS;rw [bW,bW];constructor
 ·intro h b hb;refine Classical.byContradiction fun hn=>?_;have h1:¬ (l.reverse.dropWhile (cs.contains ·))=[]:=by
   rw [bW];exact fun hh=>hn (hh b (List.mem_reverse.2 hb))
  obtain ⟨c,r,e⟩:=List.exists_cons_of_ne_nil h1;have h2:=h c (List.mem_reverse.2 (by rw [e]; exact List.mem_cons_self))
  have h3:=List.head_dropWhile_not (cs.contains ·) h1;simp only [e,List.head_cons] at h3;rw [h2] at h3;cases h3
 ·intro h b hb;exact h b (List.mem_reverse.1 ((List.dropWhile_sublist _).mem (List.mem_reverse.1 hb)))
theorem nM (s c:ByteArray) (p:UInt8→Bool) (hp:∀ b,p b=c.data.toList.contains b):gS s c=true↔s.data.toList≠[]∧s.data.toList.dropWhile p=[]:=by
 have hpe:p=(c.data.toList.contains ·):=funext hp;subst hpe;unfold gS qEj;rw [toL,toL];simp only [Bool.and_eq_true,Bool.not_eq_true',List.isEmpty_iff,List.isEmpty_eq_false_iff];exact and_congr Iff.rfl (jZo _ _)
theorem lO (s:ByteArray):(yM s).data.toList=s.data.toList.dropWhile (dgt 10):=by
 have:dgt 10=(dec.data.toList.contains ·):=funext aX;rw [this];simp [yM,jQa,Lib.trimLeftS]
theorem jMx (s:ByteArray) (k:Nat):(s.extract k s.size).data.toList=s.data.toList.drop k:=by
 have el:s.data.toList.length=s.size:=by simp
 rw [ByteArray.data_extract,Array.toList_extract,List.extract_eq_take_drop];exact List.take_of_length_le (by rw [List.length_drop,el]; exact Nat.le_refl _)
theorem qEm (s:ByteArray):(uA s).data.toList=if bt s 0=43∨bt s 0=45 then s.data.toList.drop 1 else s.data.toList:=by
 unfold uA;split
 ·rw [jMx]
 ·rfl
theorem jNh (s r:ByteArray) (k:Nat) (kind:Int) (hr:r.data.toList=s.data.toList.drop k) (hk:k≤s.size):eF s k kind=if r.data.toList=[] then kind else if jGn r=true then 2 else 0:=by
 have el:s.data.toList.length=s.size:=by simp
 have hb0:bt r 0=bt s k:=by rw [bF,bF,hr,List.getElem?_drop]; rfl
 have hsz:r.size=s.size - k:=by
  have h1:r.data.toList.length=r.size:=by simp
  rw [←h1,hr,List.length_drop,el]
 unfold eF;by_cases hn:r.data.toList=[]
 ·have hk2:s.size≤k:=by
   have:r.data.toList.length=0:=by rw [hn]; rfl
   rw [hr,List.length_drop,el] at this;omega
  have hb:bt s k=256:=tP s k hk2;rw [if_pos hn,if_neg (by omega),if_neg (by omega)]
 ·have hk2:k<s.size:=by
   refine Nat.lt_of_not_le fun h=>hn ?_;rw [hr,List.drop_eq_nil_of_le (by omega)]
  have hx:jGn r=if bt s k≠101∧bt s k≠69 then false else gS (uA (r.extract 1 r.size)) dec:=by
   unfold jGn;rw [toL,hb0,if_neg (by rw [List.isEmpty_iff]; exact hn)]
  rw [if_neg hn,hx];by_cases he:bt s k=101∨bt s k=69
  ·rw [if_pos he,if_neg (show ¬ (bt s k≠101∧bt s k≠69) by omega)]
   have hq:(uA (r.extract 1 r.size)).data.toList=s.data.toList.drop (if bt s (k+1)=43∨bt s (k+1)=45 then k+2 else k+1):=by
    have hd:(r.extract 1 r.size).data.toList=s.data.toList.drop (k+1):=by rw [jMx,hr,List.drop_drop]
    have h1:bt (r.extract 1 r.size) 0=bt s (k+1):=by rw [bF,bF,hd,List.getElem?_drop]
    rw [qEm,h1,hd];split
    ·rw [List.drop_drop]
    ·rfl
   have hp:(if bt s (k+1)=43∨bt s (k+1)=45 then k+2 else k+1)≤s.size:=by
    split
    ·rename_i h2;refine Nat.le_of_not_lt fun h3=>?_;have:=tP s (k+1) (by omega)
     omega
    ·omega
   generalize (if bt s (k+1)=43∨bt s (k+1)=45 then k+2 else k+1)=p at hq hp ⊢
   have ha:=nM (uA (r.extract 1 r.size)) dec (dgt 10) aX;rw [hq] at ha;have hw:=gQ (dgt 10) (s.data.toList.drop p);rw [List.drop_drop] at hw;have hle:((s.data.toList.drop p).takeWhile (dgt 10)).length≤(s.data.toList.drop p).length:=(List.takeWhile_sublist _).length_le;rw [List.length_drop,el] at hle;unfold xX;by_cases h0:((s.data.toList.drop p).takeWhile (dgt 10)).length=0
   ·rw [if_pos h0,if_neg];rw [ha];rintro ⟨h1,h2⟩;rw [←hw,h0] at h2;exact h1 h2
   ·rw [if_neg h0];by_cases h3:p+((s.data.toList.drop p).takeWhile (dgt 10)).length<s.size
    ·rw [if_pos h3,if_neg];rw [ha];rintro ⟨h1,h2⟩;rw [←hw] at h2;have:=congrArg List.length h2;rw [List.length_drop,el] at this;simp at this;omega
    ·rw [if_neg h3,if_pos];rw [ha];refine ⟨fun h1=>h0 (by rw [h1]; rfl),?_⟩
     rw [←hw,List.drop_eq_nil_of_le (by omega)]
  ·rw [if_neg he,if_pos hk2,if_pos (show bt s k≠101∧bt s k≠69 by omega),if_neg (by decide)]
theorem jUy (l:List UInt8) (c:UInt8):Lib.hasPrefix l [c]=true↔l[0]?=some c:=by
 unfold Lib.hasPrefix;cases l with
 | nil=>simp [List.isPrefixOf]
 | cons b r=>simp [List.isPrefixOf]; exact eq_comm
theorem qJl (l:List UInt8) (c:UInt8) (h:l[0]?=some c):Lib.trimPrefix l [c]=l.drop 1:=by
 unfold Lib.trimPrefix;rw [if_pos ((jUy l c).2 h)];rfl
theorem jEg (t:ByteArray):oI t=if gS t dec=true then 1 else if jKd t=true then 2 else 0:=by
 have el:t.data.toList.length=t.size:=by simp
 have ha:=nM t dec (dgt 10) aX;have hw:=gQ (dgt 10) t.data.toList;have hle:(t.data.toList.takeWhile (dgt 10)).length≤t.data.toList.length:=(List.takeWhile_sublist _).length_le;have hd:=lO t;have hA:xX t 0 10=(t.data.toList.takeWhile (dgt 10)).length:=by unfold xX; rw [List.drop_zero]
 have hds:(yM t).size=t.size - xX t 0 10:=by
  have h1:(yM t).data.toList.length=(yM t).size:=by simp
  rw [←h1,hd,←hw,List.length_drop,el,hA]
 rw [hA.symm] at hw hle;have hb:bt (yM t) 0=bt t (xX t 0 10):=by rw [bF,bF,hd,←hw,List.getElem?_drop]; rfl
 unfold oI jKd;generalize xX t 0 10=a at *;have hp:zW (yM t) ⟨#[46]⟩=true↔bt t a=46:=by
  unfold zW;rw [←hb,jUy,bF];constructor
  ·intro h; rw [h]; rfl
  ·intro h;split at h
   ·rename_i c e;rw [e,Option.some.injEq];exact UInt8.toNat_inj.1 (by exact_mod_cast h)
   ·cases h
 by_cases h46:bt t a=46
 ·have h46':=hp.2 h46;rw [if_pos h46,if_pos h46'];have hlt:a<t.size:=Nat.lt_of_not_le fun h=>by have:=tP t a h; omega
  have hc:(fF (yM t) ⟨#[46]⟩).data.toList=t.data.toList.drop (a+1):=by
   unfold fF;rw [jOc];rw [show ((⟨#[46]⟩:ByteArray).data.toList)=[46] from rfl,qJl _ _ ((jUy _ _).1 (by exact h46')),hd,←hw,List.drop_drop]
  have hcs:(fF (yM t) ⟨#[46]⟩).size=t.size - (a+1):=by
   have h1:(fF (yM t) ⟨#[46]⟩).data.toList.length=(fF (yM t) ⟨#[46]⟩).size:=by simp
   rw [←h1,hc,List.length_drop,el]
  generalize fF (yM t) ⟨#[46]⟩=c at *;have hcd:=lO c;have hw2:=gQ (dgt 10) (t.data.toList.drop (a+1));have hB:xX t (a+1) 10=((t.data.toList.drop (a+1)).takeWhile (dgt 10)).length:=rfl;have hle2:((t.data.toList.drop (a+1)).takeWhile (dgt 10)).length≤(t.data.toList.drop (a+1)).length:=(List.takeWhile_sublist _).length_le;rw [List.length_drop,el] at hle2;rw [←hB] at hw2 hle2;have hcds:(yM c).size=t.size - (a+1) - xX t (a+1) 10:=by
   have h1:(yM c).data.toList.length=(yM c).size:=by simp
   rw [←h1,hcd,hc,←hw2,List.length_drop,List.length_drop,el]
  have hna:¬ gS t dec=true:=by
   rw [ha];rintro ⟨h1,h2⟩;rw [←hw] at h2;have:=congrArg List.length h2;rw [List.length_drop,el] at this;simp at this;omega
  generalize xX t (a+1) 10=b at *;rw [if_neg hna,hds,hcs,hcds];by_cases h0:a=0∧b=0
  ·rw [if_pos h0,if_pos (show t.size - (t.size - a)+(t.size - (a+1) - (t.size - (a+1) - b))=0 by omega),if_neg (by decide)]
  ·rw [if_neg h0,if_neg (show ¬ (t.size - (t.size - a)+(t.size - (a+1) - (t.size - (a+1) - b))=0) by omega),jNh t (yM c) (a+1+b) 2 (by rw [hcd,hc,←hw2,List.drop_drop]) (by omega)]
   by_cases hn:(yM c).data.toList=[]
   ·rw [if_pos hn,if_pos (by unfold jGn; rw [toL,hn]; rfl)]
   ·rw [if_neg hn]
 ·rw [if_neg h46,if_neg (fun h=>h46 (hp.1 h)),hds];have hle3:a≤t.size:=by omega
  by_cases h0:a=0
  ·have hna:¬ gS t dec=true:=by
    rw [ha];rintro ⟨h1,h2⟩;rw [←hw,h0] at h2;exact h1 h2
   rw [if_pos h0,if_neg hna,if_pos (show t.size - (t.size - a)=0 by omega),if_neg (by decide)]
  ·rw [if_neg h0,if_neg (show ¬ (t.size - (t.size - a)=0) by omega),jNh t (yM t) a 1 (by rw [hd,hw]) hle3]
   by_cases hn:(yM t).data.toList=[]
   ·rw [if_pos hn,if_pos];rw [ha];refine ⟨fun h=>?_,by rw [←hd,hn]⟩
    rw [h] at el;have:t.size=0:=el.symm;omega
   ·have hna:¬ gS t dec=true:=by
     rw [ha];rintro ⟨h1,h2⟩;exact hn (by rw [hd,h2])
    rw [if_neg hn,if_neg hna]
theorem qDo (s:ByteArray) (a b:UInt8):zW s ⟨#[a,b]⟩=true↔s.data.toList[0]?=some a∧s.data.toList[1]?=some b:=by
 unfold zW;show Lib.hasPrefix s.data.toList [a,b]=true↔_;unfold Lib.hasPrefix;rcases s.data.toList with _ | ⟨x,_ | ⟨y,r⟩⟩
 ·simp [List.isPrefixOf]
 ·simp [List.isPrefixOf]
 ·simp [List.isPrefixOf];constructor
  ·rintro ⟨rfl,rfl⟩; exact ⟨rfl,rfl⟩
  ·rintro ⟨rfl,rfl⟩; exact ⟨rfl,rfl⟩
theorem qRq (s:ByteArray) (a b:UInt8) (h:zW s ⟨#[a,b]⟩=true):(fF s ⟨#[a,b]⟩).data.toList=s.data.toList.drop 2:=by
 unfold fF;rw [jOc];unfold Lib.trimPrefix;rw [if_pos (show Lib.hasPrefix s.data.toList ([a,b]:List UInt8)=true from h)];rfl
theorem jGb (s c:ByteArray) (m:Int) (hc:∀ b,dgt m b=c.data.toList.contains b) (a b:UInt8) (h:zW s ⟨#[a,b]⟩=true):(2<s.size∧vO s m=true)↔gS (fF s ⟨#[a,b]⟩) c=true:=by
 have el:s.data.toList.length=s.size:=by simp
 rw [nM _ c (dgt m) hc,qRq s a b h];have hw:=gQ (dgt m) (s.data.toList.drop 2);have hle:((s.data.toList.drop 2).takeWhile (dgt m)).length≤(s.data.toList.drop 2).length:=(List.takeWhile_sublist _).length_le;rw [List.length_drop,el] at hle;unfold vO;rw [show xX s 2 m=((s.data.toList.drop 2).takeWhile (dgt m)).length from rfl];generalize hk:((s.data.toList.drop 2).takeWhile (dgt m)).length=k at *;simp only [Bool.and_eq_true,decide_eq_true_eq];rw [←hw];constructor
 ·rintro ⟨h1,h2,h3⟩;refine ⟨fun e=>?_,List.drop_eq_nil_of_le (by rw [List.length_drop,el]; omega)⟩
  have:=congrArg List.length e;rw [List.length_drop,el] at this;simp at this;omega
 ·rintro ⟨h1,h2⟩;have h4:2<s.size:=Nat.lt_of_not_le fun h=>h1 (List.drop_eq_nil_of_le (by omega))
  have:=congrArg List.length h2;rw [List.length_drop,List.length_drop,el] at this;simp at this;omega
theorem jOm (s:ByteArray) (b:UInt8) (h:zW s ⟨#[48,b]⟩=true) (hb:b=111∨b=120):uA s=s∧sS s=false∧jKd s=false∧gS s dec=false:=by
 obtain ⟨h0,h1⟩:=(qDo s 48 b).1 h;have el:s.data.toList.length=s.size:=by simp
 have hlt:1<s.size:=by have:=(List.getElem?_eq_some_iff.1 h1).1; omega
 have b0:bt s 0=48:=by rw [bF,h0]; rfl
 have b1:bt s 1=(b.toNat:Int):=by rw [bF,h1]
 obtain ⟨r,hr⟩:∃ r,s.data.toList=48::b::r:=by
  rcases hl:s.data.toList with _ | ⟨x,_ | ⟨y,r⟩⟩
  ·rw [hl] at h0; cases h0
  ·rw [hl] at h1; cases h1
  ·rw [hl] at h0 h1;simp at h0 h1;subst h0; subst h1;exact ⟨r,rfl⟩
 have hd:dgt 10 b=false:=by rcases hb with rfl | rfl<;>decide
 have hn:gS s dec=false:=by
  rw [Bool.eq_false_iff,Ne,nM s dec (dgt 10) aX,hr];rintro ⟨_,h3⟩;have:=(bW (dgt 10) _).1 h3 b (by simp)
  rw [hd] at this; cases this
 have hdig:(yM s).data.toList=b::r:=by
  rw [lO,hr,List.dropWhile_cons_of_pos (by decide),List.dropWhile_cons_of_neg (by rw [hd]; decide)]
 have hds:(yM s).size=s.size - 1:=by
  have h3:(yM s).data.toList.length=(yM s).size:=by simp
  rw [←h3,hdig,←el,hr];simp
 have hdb:bt (yM s) 0=(b.toNat:Int):=by rw [bF,hdig]; rfl
 refine ⟨by unfold uA; rw [if_neg (by omega)],?_,?_,hn⟩
 ·unfold sS;rw [toL,hr];simp
 ·have hp:¬ zW (yM s) ⟨#[46]⟩=true:=by
   unfold zW;rw [show ((⟨#[46]⟩:ByteArray).data.toList)=[46] from rfl,jUy,hdig];rcases hb with rfl | rfl<;>simp
  unfold jKd;rw [if_neg hp,hds,if_neg (show ¬ (s.size - (s.size - 1)=0) by omega)]
  unfold jGn;rw [toL,hdig,hdb,if_neg (by simp),if_pos (by rcases hb with rfl | rfl<;>decide)]
theorem qCu (s:ByteArray) (h:Lib.containsS bM s=true):Lib.containsS uY s=false∧Lib.containsS uG s=false∧gR s=false:=by
 have h1:=(Lib.containsS_iff bM s).1 h;simp only [bM,List.mem_cons,List.not_mem_nil,or_false] at h1;rcases h1 with rfl | rfl | rfl<;>decide +kernel
theorem qHk (s:ByteArray):qAu s=uB s 5 0:=by
 unfold qAu;by_cases h1:Lib.containsS uY s=true
 ·rw [if_pos h1,uB,if_pos (show yZ s 0=true from h1)]; rfl
 rw [if_neg h1,uB,if_neg (show ¬ yZ s 0=true from h1)];by_cases h2:Lib.containsS uG s=true
 ·rw [if_pos h2,uB,if_pos (show yZ s 1=true from h2)]; rfl
 rw [if_neg h2,uB,if_neg (show ¬ yZ s 1=true from h2)];by_cases h3:Lib.containsS bM s=true
 ·obtain ⟨_,_,hw⟩:=qCu s h3;rw [if_pos h3,uB,if_neg (show ¬ yZ s 2=true by show ¬ gR s=true; rw [hw]; decide),uB]
  by_cases h4:fG s=true
  ·rw [if_pos (show yZ s 3=true from h4)]; rfl
  ·rw [if_neg (show ¬ yZ s 3=true from h4),uB,if_pos (show yZ s 4=true from h3)]; rfl
 rw [if_neg h3,uB,show yZ s 2=gR s from rfl,uB,show yZ s 3=fG s from rfl,uB,if_neg (show ¬ yZ s 4=true from h3)];have wd:wL 2=⟨#[105,110,116]⟩:=rfl;have wf:wL 3=⟨#[102,108,111,97,116]⟩:=rfl;show _=if gR s=true then wL 2 else if fG s=true then wL 3 else (⟨#[115,116,114]⟩:ByteArray)
 rw [wd,wf];unfold gR fG;by_cases ho:zW s ⟨#[48,111]⟩=true
 ·have hx:¬ zW s ⟨#[48,120]⟩=true:=fun hx=>by
   have e1:=((qDo s 48 111).1 ho).2;have e2:=((qDo s 48 120).1 hx).2;rw [e1] at e2; cases e2
  have hw:=jGb s oct 8 qHo 48 111 ho;obtain ⟨u1,u2,u3,u4⟩:=jOm s 111 ho (.inl rfl);rw [if_pos ho,u1,u2,jEg,u4,u3];by_cases hb:gS (fF s ⟨#[48,111]⟩) oct=true
  ·obtain ⟨h5,h6⟩:=hw.2 hb;rw [if_pos ⟨h5,.inl ⟨ho,h6⟩⟩,if_pos hb]
  ·rw [if_neg (fun h=>hb (hw.1 ⟨h.1,h.2.elim (fun h=>h.2) (fun h=>absurd h.1 hx)⟩)),if_neg hb];rfl
 rw [if_neg ho];by_cases hx:zW s ⟨#[48,120]⟩=true
 ·have hw:=jGb s jYh 16 qHn 48 120 hx;obtain ⟨u1,u2,u3,u4⟩:=jOm s 120 hx (.inr rfl);rw [if_pos hx,u1,u2,jEg,u4,u3];by_cases hb:gS (fF s ⟨#[48,120]⟩) jYh=true
  ·obtain ⟨h5,h6⟩:=hw.2 hb;rw [if_pos ⟨h5,.inr ⟨hx,h6⟩⟩,if_pos hb]
  ·rw [if_neg (fun h=>hb (hw.1 ⟨h.1,h.2.elim (fun h=>absurd h.1 ho) (fun h=>h.2)⟩)),if_neg hb];rfl
 rw [if_neg hx,if_neg (fun h=>h.2.elim (fun h=>ho h.1) (fun h=>hx h.1)),jEg];by_cases hi:sS (uA s)=true
 ·have hn:¬ gS (uA s) dec=true:=by
   rw [nM _ dec (dgt 10) aX];rintro ⟨_,h5⟩;unfold sS at hi;rw [toL] at hi;simp only [Bool.or_eq_true,beq_iff_eq] at hi;rcases hi with (e | e) | e <;> · rw [e] at h5; revert h5; decide
  rw [if_pos hi,if_neg hn,hi,Bool.true_or,if_pos rfl]
 ·rw [if_neg hi,Bool.eq_false_iff.2 hi,Bool.false_or];by_cases ha:gS (uA s) dec=true
  ·rw [if_pos ha,if_pos ha]; rfl
  ·rw [if_neg ha,if_neg ha];by_cases hf:jKd (uA s)=true
   ·rw [if_pos hf,if_pos hf]; rfl
   ·rw [if_neg hf,if_neg hf]; rfl
end
noncomputable section
set_option linter.all false
open Go.RowKit
def zK (s:ByteArray):Nat→Nat→List Nat
 | 0,_=>[]
 | f+1,p=>if p<s.size then (Utf8.decode s p).1::zK s f (p+(Utf8.decode s p).2) else []
theorem jCc (c:Int→Bool) (s:ByteArray):∀ (f p:Nat),wB c s f p=(zK s f p).all fun r=>c (r:Int)
 | 0,p=>rfl
 | f+1,p=>by
  unfold wB zK;by_cases hp:p<s.size
  ·rw [if_pos hp,if_pos hp,List.all_cons,jCc c s f];cases c ((Utf8.decode s p).1:Int)<;>rfl
  ·rw [if_neg hp,if_neg hp]; rfl
theorem iP (s:ByteArray):∀ (f p:Nat),zR s f p=(zK s f p).flatMap fun r=>(qE r).data.toList
 | 0,p=>rfl
 | f+1,p=>by
  unfold zR zK;by_cases hp:p<s.size
  ·rw [if_pos hp,if_pos hp,List.flatMap_cons,iP s f]
  ·rw [if_neg hp,if_neg hp]; rfl
theorem aD (s:ByteArray):∀ (f p:Nat),(zK s f p).length≤f
 | 0,p=>Nat.le_refl _
 | f+1,p=>by
  unfold zK;split
  ·rw [List.length_cons]; exact Nat.succ_le_succ (aD s f _)
  ·exact Nat.zero_le _
def zS (r:Nat):Prop:=r<55296∨(57344≤r∧r≤1114111)
theorem jCv (s:ByteArray) (p:Nat):zS (Utf8.decode s p).1:=by
 unfold zS Utf8.decode;simp only
 repeat' split
 all_goals first
  | (left; show Utf8.runeError<55296∨_; unfold Utf8.runeError; omega)
  | (show Utf8.runeError<55296∨_; unfold Utf8.runeError; omega)
  | (rename_i hc; simp only [Utf8.valid,Bool.and_eq_true,Bool.or_eq_true,decide_eq_true_eq] at hc; dsimp only; omega)
  | (dsimp only; omega)
theorem pL (s:ByteArray):∀ (f p:Nat) (r:Nat),r∈zK s f p→zS r
 | 0,p,r,h=>by cases h
 | f+1,p,r,h=>by
  unfold zK at h;split at h
  ·rcases List.mem_cons.1 h with rfl | h
   ·exact jCv s p
   ·exact pL s f _ r h
  ·cases h
def uJ:Nat→Nat
 | 0=>0
 | 1=>7
 | 2=>8
 | 3=>9
 | 4=>10
 | 5=>11
 | 6=>12
 | 7=>13
 | _=>27
def pR (r:Nat):Nat→List UInt8
 | 0=>[]
 | k+1=>mL (r / 16^k % 16)::pR r k
def lI (r:Nat):ByteArray:=if r≤255 then ⟨#[92,120]⟩++mkS (pR r 2) else if r≤65535 then ⟨#[92,117]⟩++mkS (pR r 4) else ⟨#[92,85]⟩++mkS (pR r 8)
def jNz:ByteArray:=⟨#[48,97,98,116,110,118,102,114,101,9,32,34,47,92,78,95,76,80]⟩
theorem jZk:∀ k:Nat,k<9→qE (uJ k)=⟨#[92]⟩++jNz.extract k (k+1):=by decide +kernel
theorem qJc:qE 34=⟨#[92,34]⟩:=by decide +kernel
theorem qJd:qE 92=⟨#[92,92]⟩:=by decide +kernel
def dI (r:Nat):Bool:=r != 34&&r != 92&&(List.range 9).all fun k=>uJ k != r
theorem jSv (r:Nat) (h:dI r=true) (hp:zF r=true):qE r=Utf8.encode r:=by
 have hl:uD r=⟨#[]⟩:=by
  have h1:r≠34∧r≠92∧r≠0∧r≠27∧¬ (7≤r∧r≤13):=by
   unfold dI at h;simp only [Bool.and_eq_true,bne_iff_ne,ne_eq,List.all_eq_true,List.mem_range] at h;obtain ⟨⟨h1,h2⟩,h3⟩:=h;have k0:=h3 0 (by decide)
   have k1:=h3 1 (by decide)
   have k2:=h3 2 (by decide)
   have k3:=h3 3 (by decide)
   have k4:=h3 4 (by decide)
   have k5:=h3 5 (by decide)
   have k6:=h3 6 (by decide)
   have k7:=h3 7 (by decide)
   have k8:=h3 8 (by decide)
   simp only [uJ] at k0 k1 k2 k3 k4 k5 k6 k7 k8;omega
  unfold uD;rw [if_neg h1.1,if_neg h1.2.1,if_neg h1.2.2.1,if_neg h1.2.2.2.1,if_neg h1.2.2.2.2]
 unfold qE;rw [if_pos hl,if_pos hp]
theorem jMu:∀ r:Nat,r<256→dI r=true→zF r=false→qE r=lI r:=by decide +kernel
theorem jWo {r:Nat} (hv:zS r) (hp:zF r=false):r<256∨r=65279∨r=65534∨r=65535:=by
 unfold zS at hv;unfold zF at hp;simp only [Bool.or_eq_false_iff,Bool.and_eq_false_iff,beq_eq_false_iff_ne,bne_eq_false_iff_eq,decide_eq_false_iff_not] at hp;omega
theorem jSu (r:Nat) (hv:zS r) (h:dI r=true) (hp:zF r=false):qE r=lI r:=by
 rcases jWo hv hp with h1 | h1 | h1 | h1
 ·exact jMu r h1 h hp
 ·subst h1; decide +kernel
 ·subst h1; decide +kernel
 ·subst h1; decide +kernel
theorem qRr (r:Nat) (h:r<128):Utf8.encode r=⟨#[UInt8.ofNat r]⟩:=by
 have hv:Utf8.valid (r:Int)=true:=by simp [Utf8.valid]; omega
 unfold Utf8.encode;simp only [hv,if_true,Int.toNat_natCast];rw [if_pos h]
theorem qRs (r:Nat) (h0:128≤r) (h:r<2048):Utf8.encode r=⟨#[UInt8.ofNat (192+r / 64),UInt8.ofNat (128+r % 64)]⟩:=by
 have hv:Utf8.valid (r:Int)=true:=by simp [Utf8.valid]; omega
 unfold Utf8.encode;simp only [hv,if_true,Int.toNat_natCast];rw [if_neg (by omega),if_pos h]
theorem qRt (r:Nat) (h0:2048≤r) (h:r<65536) (hv:zS r):Utf8.encode r=⟨#[UInt8.ofNat (224+r / 4096),UInt8.ofNat (128+r / 64 % 64),UInt8.ofNat (128+r % 64)]⟩:=by
 unfold zS at hv;have hv:Utf8.valid (r:Int)=true:=by simp [Utf8.valid]; omega
 unfold Utf8.encode;simp only [hv,if_true,Int.toNat_natCast];rw [if_neg (by omega),if_neg (by omega),if_pos h]
theorem qRu (r:Nat) (h0:65536≤r) (hv:zS r):Utf8.encode r=⟨#[UInt8.ofNat (240+r / 262144),UInt8.ofNat (128+r / 4096 % 64),UInt8.ofNat (128+r / 64 % 64),UInt8.ofNat (128+r % 64)]⟩:=by
 unfold zS at hv;have hv:Utf8.valid (r:Int)=true:=by simp [Utf8.valid]; omega
 unfold Utf8.encode;simp only [hv,if_true,Int.toNat_natCast];rw [if_neg (by omega),if_neg (by omega),if_neg (by omega)]
end
end Go.Proofs.YtdlhiljbhepliaaGreatDoor
