/-
Plain functions of texts: what the functions of sign, rows, plai, text, pick compute that tell whether a text may stand plain. No program is named here.
-/
import Derived.Below
import Derived.WalkKit
import Derived.WalkSpells
import Derived.WalkLawsBesides
import Derived.Deep.Light
import Derived.Lib.Hide
import Derived.Lib.Strings
import Derived.Lib.RuneCountTail
import Derived.Lib.RuneCount
import Derived.Lib.Bytealg
import Derived.Test.YtdlhiljbhepliaaGreatDoorRows
import Derived.Test.YtdlhiljbhepliaaGreatDoorPsH
import Derived.Lib.OthersKept
import Derived.WalkSmall
namespace Go.Proofs.YtdlhiljbhepliaaGreatDoor
noncomputable section
open Go.RowKit
theorem jC {a b:Bool} (h:a=b):Ending.returned (.bool a)=Ending.returned (.bool b):=by rw [h]
theorem qD {k:IntKind} {a b:Int} (h:a=b):Ending.returned (.int k a)=Ending.returned (.int k b):=by rw [h]
theorem jL {a b:ByteArray} (h:a=b):Ending.returned (.string a)=Ending.returned (.string b):=by rw [h]
def mkS (l:List UInt8):ByteArray:=⟨l.toArray⟩
theorem jOc (l:List UInt8):(mkS l).data.toList=l:=rfl
theorem qCt (l:List UInt8):(mkS l).size=l.length:=rfl
def zW (s p:ByteArray):Bool:=Lib.hasPrefix s.data.toList p.data.toList
def bt (s:ByteArray) (k:Nat):Int:=if h:k<s.size then (s[k].toNat:Int) else 256
theorem xU (s:ByteArray) (k:Nat) (h:k<s.size):bt s k=(s[k].toNat:Int):=by rw [bt,dif_pos h]
theorem tP (s:ByteArray) (k:Nat) (h:s.size≤k):bt s k=256:=by rw [bt,dif_neg (by omega)]
def qP (c:Int):Bool:=c==32||c==9
def zB (c:Int):Bool:=c==44||c==91||c==93||c==123||c==125
def jRn (c:Int):Bool:=c==45||c==63||c==58||c==35||c==38||c==42||c==33||c==124||c==62||c==39||c==34||c==37||c==64||c==96||zB c
def zF (r:Int):Bool:=r==9||r==10||(decide (32≤r)&&decide (r≤126))||r==133||(r != 65279&&((decide (160≤r)&&decide (r≤55295))||(decide (57344≤r)&&decide (r≤65533))||(decide (65536≤r)&&decide (r≤1114111))))
def uI (s:ByteArray) (k:Nat):Bool:=decide (s.size≤k)||qP (bt s k)||bt s k==10
def uM (s:ByteArray) (k:Nat) (flow:Bool):Bool:=uI s (k+1)||(flow&&zB (bt s (k+1)))
def pO (c:Int):Bool:=c==45||c==63||c==58
def xC (s:ByteArray) (flow:Bool):Bool := !uI s 0&&(if pO (bt s 0)=true then !uM s 0 flow else !jRn (bt s 0))
def yJ (s:ByteArray) (flow:Bool) (p:Nat):Bool:=if bt s p=35 then decide (0<p)&&qP (bt s (p - 1)) else if bt s p=58 then uM s p flow else flow&&zB (bt s p)
def lfN (s:ByteArray):Nat:=if 0≤Lib.indexByte s.data.toList 10 then (Lib.indexByte s.data.toList 10).toNat else s.size
def dN (s:ByteArray) (flow:Bool) (t:ByteArray):Nat→Nat→Nat
 | 0,_=>t.size
 | f+1,p=>if p<t.size then (if yJ s flow p=true then p else dN s flow t f (p+(Utf8.decode t p).2)) else t.size
def qQ (s:ByteArray):Nat→Nat
 | 0=>0
 | e+1=>if qP (bt s e)=true then qQ s e else e+1
def uC (s:ByteArray) (flow:Bool):Nat:=if s.size=0 then 0 else qQ s (dN s flow (s.extract 0 (lfN s)) (lfN s) 0)
def wB (c:Int→Bool) (s:ByteArray):Nat→Nat→Bool
 | 0,_=>true
 | f+1,p=>if p<s.size then (if c (Utf8.decode s p).1=true then wB c s f (p+(Utf8.decode s p).2) else false) else true
def fI (s:ByteArray):Nat→Nat→Int
 | 0,_ => -1
 | f+1,p=>if p<s.size then (if (Utf8.decode s p).1=65533∧(Utf8.decode s p).2<2 then (p:Int) else fI s f (p+(Utf8.decode s p).2)) else -1
def wY (s:ByteArray):Int:=fI s s.size 0
def jFt (s:ByteArray):Bool:=wB zF s s.size 0&&decide (wY s<0)
def uX (r:Int):Bool:=r != 10&&zF r
def qN (s:ByteArray):Bool:=wB uX s s.size 0&&decide (wY s<0)
def eS (s:ByteArray) (c:UInt8):Bool:=decide (0≤Lib.indexByte s.data.toList c)
def vA (s:ByteArray) (flow:Bool):Bool:=
 xC s flow&&(uC s flow==s.size) && !eS s 9 && !eS s 10&&jFt s && !zW s ⟨#[45,45,45]⟩ && !zW s ⟨#[46,46,46]⟩
theorem fP (l:List UInt8) (c:UInt8):Lib.indexByte l c≤l.length:=by
 induction l with
 | nil=>simp [Lib.indexByte]
 | cons a r ih=>
  unfold Lib.indexByte;split
  ·simp; omega
  ·split<;>simp<;>omega
theorem qCn (s:ByteArray):lfN s≤s.size:=by
 have h:=fP s.data.toList 10;have e:s.data.toList.length=s.size:=by simp
 unfold lfN;split<;>omega
theorem jMk (s:ByteArray):∀ n,qQ s n≤n
 | 0=>Nat.le_refl _
 | n+1=>by
  rw [qQ];split
  ·exact Nat.le_succ_of_le (jMk s n)
  ·exact Nat.le_refl _
end
noncomputable section
open Go.RowKit
set_option maxHeartbeats 400000 in
theorem kT (c:Int) (w:World) :
  Calls Tryz.prog 149 #[.int .u8 c] w fun e w'=>e = .returned (.bool (qP c))∧w=w':=by
 go_enter Tryz.func149,Tryz.ntmps149;go_wp2
 all_goals go_ret
 all_goals exact ⟨jC (by simp [qP, *]),rfl⟩
set_option maxHeartbeats 400000 in
theorem jDi (c:Int) (w:World) :
  Calls Tryz.prog 181 #[.int .u8 c] w fun e w'=>e = .returned (.bool (zB c))∧w=w':=by
 go_enter Tryz.func181,Tryz.ntmps181;go_wp2
 all_goals go_ret
 all_goals exact ⟨jC (by simp [zB, *]),rfl⟩
set_option maxHeartbeats 1000000 in
theorem jUx (c:Int) (w:World) :
  Calls Tryz.prog 146 #[.int .u8 c] w fun e w'=>e = .returned (.bool (jRn c))∧w=w':=by
 go_enter Tryz.func146,Tryz.ntmps146;go_wp2_with (go_at_call 181; refine (jDi _ _).mono ?_; rintro e w' ⟨rfl,rfl⟩)
 all_goals go_ret
 all_goals exact ⟨jC (by simp [jRn, *]),rfl⟩
set_option maxHeartbeats 400000 in
theorem qHr (s:ByteArray) (k:Nat) (w:World) (hs:s.size≤140737488355328) (hk:k<s.size) :
  Calls Tryz.prog 144 #[.string s,.int .i64 k] w fun e w'=>e = .returned (.bool (uI s k))∧w=w':=by
 have d1:decide ((k:Int)<0)=false:=by simp
 have d2:decide (s.size≤k)=false:=by simp; omega
 have HE:Hid (uI s k=(qP (s[k].toNat:Int)||(s[k].toNat:Int)==10)):=Lib.hid (by rw [uI,d2,xU s k hk]; rfl)
 cases hw:qP (s[k].toNat:Int)
 ·go_enter Tryz.func144,Tryz.ntmps144;go_wp2_with (go_at_call 149; refine (kT _ _).mono ?_; rintro e w' ⟨rfl,rfl⟩; rw [hw]);go_ret;exact ⟨jC (by rw [HE.out,hw]; rfl),rfl⟩
 ·go_enter Tryz.func144,Tryz.ntmps144;go_wp2_with (go_at_call 149; refine (kT _ _).mono ?_; rintro e w' ⟨rfl,rfl⟩; rw [hw]);go_ret;exact ⟨jC (by rw [HE.out,hw]; rfl),rfl⟩
set_option maxHeartbeats 400000 in
theorem bY (s:ByteArray) (a:Int) (k:Nat) (w:World) (hs:s.size≤140737488355328) (ha:a=k) :
  Calls Tryz.prog 144 #[.string s,.int .i64 a] w fun e w'=>e = .returned (.bool (uI s k))∧w=w':=by
 subst ha;by_cases hk:k<s.size
 ·exact qHr s k w hs hk
 ·have d1:decide ((k:Int)<0)=false:=by simp
  have d2:decide (s.size≤k)=true:=by simp; omega
  go_enter Tryz.func144,Tryz.ntmps144;go_wp2;go_ret;have HE:Hid (uI s k=true):=Lib.hid (by rw [uI,d2]; rfl)
  exact ⟨jC HE.out.symm,rfl⟩
theorem eB {s:ByteArray} {k:Nat} (h:uI s k=false):k<s.size:=by
 unfold uI at h;simp at h;omega
set_option maxHeartbeats 1000000 in
theorem jJa (s:ByteArray) (a:Int) (k:Nat) (flow:Bool) (w:World) (hs:s.size≤140737488355328) (ha:a=k) (hk:k<s.size) :
  Calls Tryz.prog 145 #[.string s,.int .i64 a,.bool flow] w fun e w'=>e = .returned (.bool (uM s k flow))∧w=w':=by
 subst ha;cases he:uI s (k+1)
 ·have hlt:=eB he;have HB:Hid (bt s (k+1)=(s[k+1].toNat:Int)):=Lib.hid (xU s (k+1) hlt);cases flow
  ·go_enter Tryz.func145,Tryz.ntmps145;go_wp2_with (first | (go_at_call 144; refine (bY s _ (k+1) _ hs (by omega)).mono ?_; rintro e w' ⟨rfl,rfl⟩; rw [he]))
   go_ret;exact ⟨jC (by simp [uM,he]),rfl⟩
  ·go_enter Tryz.func145,Tryz.ntmps145;go_wp2_with (first | (go_at_call 144; refine (bY s _ (k+1) _ hs (by omega)).mono ?_; rintro e w' ⟨rfl,rfl⟩; rw [he]) | (go_at_call 181; refine (jDi _ _).mono ?_; rintro e w' ⟨rfl,rfl⟩))
   all_goals go_ret
   all_goals exact ⟨jC (by simp [uM,he,HB.out, *]),rfl⟩
 ·go_enter Tryz.func145,Tryz.ntmps145;go_wp2_with (first | (go_at_call 144; refine (bY s _ (k+1) _ hs (by omega)).mono ?_; rintro e w' ⟨rfl,rfl⟩; rw [he]))
  go_ret;exact ⟨jC (by simp [uM,he]),rfl⟩
end
noncomputable section
set_option linter.all false
open Go.RowKit
theorem qHt (s:ByteArray):s.extract 0 s.size=s:=by
 apply ByteArray.ext;simp
set_option maxHeartbeats 1000000 in
theorem tN (s:ByteArray) (flow:Bool) (w:World) (hs:s.size≤140737488355328) :
  Calls Tryz.prog 113 #[.string s,.int .i64 0,.bool flow] w fun e w'=>e = .returned (.bool (xC s flow))∧w=w':=by
 cases he:uI s 0
 ·have hlt:=eB he;have HB:Hid (bt s 0=(s[0].toNat:Int)):=Lib.hid (xU s 0 hlt);cases hg:pO (bt s 0)
  ·have HG:Hid (pO (s[0].toNat:Int)=false):=Lib.hid (by rw [←HB.out]; exact hg)
   have g1:((s[0].toNat:Int)==45)=false:=by have:=HG.out; simp [pO] at this ⊢; omega
   have g2:((s[0].toNat:Int)==63)=false:=by have:=HG.out; simp [pO] at this ⊢; omega
   have g3:((s[0].toNat:Int)==58)=false:=by have:=HG.out; simp [pO] at this ⊢; omega
   go_enter Tryz.func113,Tryz.ntmps113;go_wp2_with (first | (go_at_call 144; refine (bY s _ 0 _ hs rfl).mono ?_; rintro e w' ⟨rfl,rfl⟩; rw [he]) | (go_at_call 146; refine (jUx _ _).mono ?_; rintro e w' ⟨rfl,rfl⟩) | go_in)
   all_goals go_ret
   all_goals exact ⟨jC (by simp [xC,he,HB.out,HG.out]),rfl⟩
  ·have HG:Hid (pO (s[0].toNat:Int)=true):=Lib.hid (by rw [←HB.out]; exact hg)
   go_enter Tryz.func113,Tryz.ntmps113;go_wp2_with (first | (go_at_call 144; refine (bY s _ 0 _ hs rfl).mono ?_; rintro e w' ⟨rfl,rfl⟩; rw [he]) | (go_at_call 146; refine (jUx _ _).mono ?_; rintro e w' ⟨rfl,rfl⟩) | (go_at_call 145; refine (jJa s _ 0 flow _ hs rfl hlt).mono ?_; rintro e w' ⟨rfl,rfl⟩) | go_in)
   all_goals go_ret
   all_goals first | (exfalso; have:=HG.out; simp_all [pO]; done) | exact ⟨jC (by simp [xC,he,hg]),rfl⟩
 ·by_cases h0:s.size=0
  ·have d1:decide (0<s.size)=false:=by rw [decide_eq_false_iff_not]; omega
   go_enter Tryz.func113,Tryz.ntmps113;go_wp2_with go_in;go_ret;exact ⟨jC (by simp [xC,he]),rfl⟩
  ·have d1:decide (0<s.size)=true:=by rw [decide_eq_true_eq]; omega
   go_enter Tryz.func113,Tryz.ntmps113;go_wp2_with (first | (go_at_call 144; refine (bY s _ 0 _ hs rfl).mono ?_; rintro e w' ⟨rfl,rfl⟩; rw [he]) | go_in)
   go_ret;exact ⟨jC (by simp [xC,he]),rfl⟩
set_option maxHeartbeats 400000 in
theorem jNs (s:ByteArray) (w:World) (hs:s.size≤140737488355328) :
  Calls Tryz.prog 182 #[.string s,.int .i64 0] w fun e w'=>e = .returned (.int .i64 0)∧w=w':=by
 go_enter Tryz.func182,Tryz.ntmps182;go_wp2
 all_goals go_ret
 all_goals exact ⟨qD (by omega),rfl⟩
set_option maxRecDepth 100000 in
set_option maxHeartbeats 1000000 in
theorem qIy (s:ByteArray) (w:World) (hs:s.size≤140737488355328) :
  Calls Tryz.prog 147 #[.string s,.int .i64 0] w fun e w'=>∃ f:Int,e = .returned (.tuple #[.int .i64 f,.int .i64 (lfN s:Nat)])∧w=w':=by
 have HX:Hid (s.extract 0 s.size=s):=Lib.hid (qHt s);have hge:=Lib.indexByte_ge s.data.toList 10;have hle:=fP s.data.toList 10;have e:s.data.toList.length=s.size:=by simp
 cases hn:decide (0≤Lib.indexByte s.data.toList 10)
 ·have HL:Hid (lfN s=s.size):=Lib.hid (by unfold lfN; rw [if_neg (by simpa using hn)])
  go_enter Tryz.func147,Tryz.ntmps147;go_wp2_with (first | (go_at_call 182; refine (jNs s _ hs).mono ?_; rintro e w' ⟨rfl,rfl⟩) | (go_at_call 183; refine (Tryz.qLastIndexByte _ _ (by first | omega | (simp; done) | (simp; omega)) _).mono ?_; rintro e w' ⟨rfl,rfl⟩) | (go_at_call 118; refine (Tryz.qIndexByte _ _ _).mono ?_; rintro e w' ⟨rfl,rfl⟩))
  go_ret2;exact ⟨wrap64 (Lib.lastIndexByte ByteArray.empty 10+1),by rw [HL.out]; rfl,rfl⟩
 ·have HL:Hid (Lib.indexByte s.data.toList 10=(lfN s:Nat)):=Lib.hid (by
   have h:0≤Lib.indexByte s.data.toList 10:=by simpa using hn
   unfold lfN; rw [if_pos h]; omega)
  go_enter Tryz.func147,Tryz.ntmps147;go_wp2_with (first | (go_at_call 182; refine (jNs s _ hs).mono ?_; rintro e w' ⟨rfl,rfl⟩) | (go_at_call 183; refine (Tryz.qLastIndexByte _ _ (by first | omega | (simp; done) | (simp; omega)) _).mono ?_; rintro e w' ⟨rfl,rfl⟩) | (go_at_call 118; refine (Tryz.qIndexByte _ _ _).mono ?_; rintro e w' ⟨rfl,rfl⟩))
  go_ret2;exact ⟨wrap64 (Lib.lastIndexByte ByteArray.empty 10+1),by rw [HL.out]; rfl,rfl⟩
theorem qEd {s:ByteArray} {flow:Bool} {k:Nat} (hk:k<s.size):yJ s flow k=if (s[k].toNat:Int)=35 then decide (0<k)&&qP (bt s (k - 1)) else if (s[k].toNat:Int)=58 then uM s k flow else flow&&zB (s[k].toNat:Int):=by
 rw [yJ,xU s k hk]
set_option maxHeartbeats 1000000 in
theorem jPu (s:ByteArray) (a:Int) (k:Nat) (flow:Bool) (w:World) (hs:s.size≤140737488355328) (ha:a=k) (hk:k<s.size) :
  Calls Tryz.prog 148 #[.string s,.int .i64 a,.bool flow] w fun e w'=>e = .returned (.bool (yJ s flow k))∧w=w':=by
 subst ha;have HS:=Lib.hid (qEd (flow:=flow) hk);by_cases h35:(s[k].toNat:Int)=35
 ·have HE:Hid (yJ s flow k=(decide (0<k)&&qP (bt s (k - 1)))):=Lib.hid (by rw [HS.out,if_pos h35])
  by_cases h0:0<k
  ·have HB:Hid (bt s (k - 1)=(s[k - 1].toNat:Int)):=Lib.hid (xU s (k - 1) (by omega))
   go_enter Tryz.func148,Tryz.ntmps148;go_wp2_with (go_at_call 149; refine (kT _ _).mono ?_; rintro e w' ⟨rfl,rfl⟩);go_ret;refine ⟨jC ?_,rfl⟩;rw [HE.out,HB.out];simp [h0]
  ·obtain rfl:k=0:=by omega
   go_enter Tryz.func148,Tryz.ntmps148;go_wp2;go_ret;exact ⟨jC (by rw [HE.out]; simp),rfl⟩
 ·by_cases h58:(s[k].toNat:Int)=58
  ·have HE:Hid (yJ s flow k=uM s k flow):=Lib.hid (by rw [HS.out,if_neg h35,if_pos h58])
   go_enter Tryz.func148,Tryz.ntmps148;go_wp2_with (go_at_call 145; refine (jJa s _ k flow _ hs rfl hk).mono ?_; rintro e w' ⟨rfl,rfl⟩);go_ret;exact ⟨jC HE.out.symm,rfl⟩
  ·have HE:Hid (yJ s flow k=(flow&&zB (s[k].toNat:Int))):=Lib.hid (by rw [HS.out,if_neg h35,if_neg h58])
   cases flow
   ·go_enter Tryz.func148,Tryz.ntmps148;go_wp2;go_ret;exact ⟨jC (by rw [HE.out]; simp),rfl⟩
   ·go_enter Tryz.func148,Tryz.ntmps148;go_wp2_with (go_at_call 181; refine (jDi _ _).mono ?_; rintro e w' ⟨rfl,rfl⟩);go_ret;exact ⟨jC (by rw [HE.out]; simp),rfl⟩
end
noncomputable section
set_option linter.all false
open Go.RowKit
theorem kJ (s:ByteArray) (k:Nat) (hk:k<s.size):(Utf8.decode s k).2≤s.size - k:=by
 unfold Utf8.decode;simp only
 repeat' split
 all_goals simp_all
 all_goals omega
set_option maxRecDepth 100000 in
set_option maxHeartbeats 2000000 in
theorem jOs (s:ByteArray) (flow:Bool) (w:World) (hs:s.size≤140737488355328) :
  Calls Tryz.prog 114 #[.string s,.int .i64 0,.bool flow] w fun e w'=>e = .returned (.int .i64 (uC s flow:Nat))∧Below w.heap.size w w':=by
 by_cases h0:s.size=0
 ·have d1:decide (0<s.size)=false:=by rw [decide_eq_false_iff_not]; omega
  have HE:Hid (uC s flow=0):=Lib.hid (by rw [uC,if_pos h0])
  go_enter Tryz.func114,Tryz.ntmps114;go_wp2_with go_in;go_ret;exact ⟨qD (by rw [HE.out]; rfl),Below.refl _ _⟩
 ·have d1:decide (0<s.size)=true:=by rw [decide_eq_true_eq]; omega
  have hL:=qCn s;obtain ⟨t,ht⟩:∃ t,t=s.extract 0 (lfN s):=⟨_,rfl⟩;have HT:Hid (t=s.extract 0 (lfN s)):=Lib.hid ht;have htz:t.size=lfN s:=by rw [ht]; simp; omega
  have HP:Hid (uC s flow=qQ s (dN s flow t (lfN s) 0)):=Lib.hid (by rw [uC,if_neg h0,ht])
  clear ht;go_enter Tryz.func114,Tryz.ntmps114;go_wp2_with (first | (go_at_call 147; refine (qIy s _ hs).mono ?_; rintro e w' ⟨f,rfl,rfl⟩; try rw [←HT.out]) | go_in)
  go_loopw [9] (fun v wr=>∃ pos fuel:Nat,v = .int .i64 (lfN s:Nat)∧wr.heap[w.heap.size]?=some (.stringIter t pos)∧Below w.heap.size w wr∧Hid (dN s flow t fuel pos=dN s flow t (lfN s) 0)∧t.size≤pos+fuel∧pos≤t.size) (fun _ wr=>t.size - wr.iterPos w.heap.size)
  case atStart=>exact ⟨0,lfN s,rfl,by rw [HT.out]; exact World.iter_heap w _ 0,(Below.refl _ _).alloc (Nat.le_refl _) _,rfl,by omega,by omega⟩
  case round=>
   obtain ⟨pos,fuel,rfl,hit,hbw,HS,hfu,hpt⟩:=hrel;have hpos0:=iterPos_of hit;by_cases hp:pos<t.size
   ·have hnx:∀ ty,(Instr.next (.pointer (some ⟨w.heap.size,0,none⟩)) true ty).run Tryz.prog wr=_:=fun ty=>Lib.run_next_any_at wr w.heap.size t pos ty hit hp
    have hwd:=Lib.decode_width_pos t pos hp;have hd1:=kJ t pos hp;obtain ⟨f,rfl⟩:∃ f,fuel=f+1:=⟨fuel - 1,by omega⟩
    have HS':Hid (dN s flow t (lfN s) 0=if yJ s flow pos=true then pos else dN s flow t f (pos+(Utf8.decode t pos).2)):=Lib.hid (by rw [←HS.out,dN,if_pos hp])
    have hit2:=Lib.iterAt_heap wr w.heap.size t pos (pos+(Utf8.decode t pos).2) hit;have hbw2:=Lib.below_iterAt hbw (k:=w.heap.size) (Nat.le_refl _) t (pos+(Utf8.decode t pos).2);obtain ⟨W1,hW1⟩:∃ W1,W1=wr.iterAt w.heap.size t (pos+(Utf8.decode t pos).2):=⟨_,rfl⟩;rw [←hW1] at hnx hit2 hbw2;clear hW1 hit hbw HS;have hBlt:=lt_of_block hit2;generalize hd:Utf8.decode t pos=d at *;clear hd;obtain ⟨r,k⟩:=d;dsimp only at hnx hwd hd1 HS' hit2;cases hst:yJ s flow pos
    ·go_wp2_with (first | (go_at_call 148; refine (jPu s _ pos flow _ hs rfl (by omega)).mono ?_; rintro e w' ⟨rfl,rfl⟩; rw [hst]))
     refine ⟨⟨pos+k,f,rfl,hit2,hbw2,Lib.hid (by rw [HS'.out,hst]; rfl),by omega,by omega⟩,?_⟩
     rw [iterPos_of hit2,hpos0]; omega
    ·have HE:Hid (uC s flow=qQ s pos):=Lib.hid (by rw [HP.out,HS'.out,hst]; rfl)
     go_wp2_with (first | (go_at_call 148; refine (jPu s _ pos flow _ hs rfl (by omega)).mono ?_; rintro e w' ⟨rfl,rfl⟩; rw [hst]))
     go_loop [9] (fun v=>∃ e:Nat,v = .int .i64 e∧e≤s.size∧Hid (uC s flow=qQ s e)) (fun v=>(intOf v).toNat)
     case atStart=>exact ⟨_,rfl,by omega,HE⟩
     case round=>
      obtain ⟨e,rfl,he,HR⟩:=hrel;by_cases hz:0<e
      ·have hlt:e - 1<s.size:=by omega
       obtain ⟨m,rfl⟩:∃ m,e=m+1:=⟨e - 1,by omega⟩
       have HB:Hid (uC s flow=if qP (s[m].toNat:Int)=true then qQ s m else m+1):=Lib.hid (by rw [HR.out,qQ,xU s m (by omega)])
       cases hw:qP (s[m].toNat:Int)
       ·go_wp2_with (go_at_call 149; refine (kT _ _).mono ?_; rintro e w' ⟨rfl,rfl⟩; rw [hw]);go_ret;exact ⟨qD (by rw [HB.out,hw]; simp),hbw2⟩
       ·go_wp2_with (go_at_call 149; refine (kT _ _).mono ?_; rintro e w' ⟨rfl,rfl⟩; rw [hw]);refine ⟨⟨m,by go_num,by omega,Lib.hid (by rw [HB.out,hw]; rfl)⟩,by simp [intOf]⟩
      ·obtain rfl:e=0:=by omega
       go_wp2;go_ret;exact ⟨qD (by rw [HR.out]; rfl),hbw2⟩
   ·have hnx:∀ ty,(Instr.next (.pointer (some ⟨w.heap.size,0,none⟩)) true ty).run Tryz.prog wr=_:=fun ty=>Lib.run_next_end_at wr w.heap.size t pos ty hit hp
    have HE:Hid (uC s flow=qQ s (lfN s)):=Lib.hid (by
     rw [HP.out,←HS.out];cases fuel with
     | zero=>rw [dN,htz]
     | succ f=>rw [dN,if_neg hp,htz])
    go_wp2;generalize lfN s=e0 at *;go_loop [9] (fun v=>∃ e:Nat,v = .int .i64 e∧e≤s.size∧Hid (uC s flow=qQ s e)) (fun v=>(intOf v).toNat)
    case atStart=>exact ⟨_,rfl,by omega,HE⟩
    case round=>
     obtain ⟨e,rfl,he,HR⟩:=hrel;by_cases hz:0<e
     ·have hlt:e - 1<s.size:=by omega
      obtain ⟨m,rfl⟩:∃ m,e=m+1:=⟨e - 1,by omega⟩
      have HB:Hid (uC s flow=if qP (s[m].toNat:Int)=true then qQ s m else m+1):=Lib.hid (by rw [HR.out,qQ,xU s m (by omega)])
      cases hw:qP (s[m].toNat:Int)
      ·go_wp2_with (go_at_call 149; refine (kT _ _).mono ?_; rintro e w' ⟨rfl,rfl⟩; rw [hw]);go_ret;exact ⟨qD (by rw [HB.out,hw]; simp),hbw⟩
      ·go_wp2_with (go_at_call 149; refine (kT _ _).mono ?_; rintro e w' ⟨rfl,rfl⟩; rw [hw]);refine ⟨⟨m,by go_num,by omega,Lib.hid (by rw [HB.out,hw]; rfl)⟩,by simp [intOf]⟩
     ·obtain rfl:e=0:=by omega
      go_wp2;go_ret;exact ⟨qD (by rw [HR.out]; rfl),hbw⟩
end
noncomputable section
set_option linter.all false
open Go.RowKit
theorem gN {w w':World} {g3 g4:Nat} (h:Lib.Utf8Tabs g3 g4 w) (hb:Below w.heap.size w w'):Lib.Utf8Tabs g3 g4 w':=by
 have lt:∀ (b o:Nat) (v:Value),w.cell? ⟨b,o,none⟩=some v→b<w.heap.size:=by
  intro b o v hc;rcases Nat.lt_or_ge b w.heap.size with hlt | hge
  ·exact hlt
  ·unfold World.cell? at hc;simp [Array.getElem?_eq_none hge] at hc
 have l3:=lt _ _ _ (h.1 0 (by decide))
 have l4:=lt _ _ _ (h.2 0 (by decide)).1
 exact ⟨fun c hc=>(hb.cell (p:=⟨g3,c,none⟩) l3).trans (h.1 c hc),fun i hi=>⟨(hb.cell (p:=⟨g4,2*i,none⟩) l4).trans (h.2 i hi).1,(hb.cell (p:=⟨g4,2*i+1,none⟩) l4).trans (h.2 i hi).2⟩⟩
def mF (r size:Int):Bool:=r==65533&&decide (size<2)
set_option maxHeartbeats 400000 in
theorem jQy (r size:Int) (w:World) :
  Calls Tryz.prog 166 #[.int .i32 r,.int .i64 size] w fun e w'=>e = .returned (.bool (mF r size))∧w=w':=by
 cases h:(r==65533)
 ·go_enter Tryz.func166,Tryz.ntmps166;go_wp2
  all_goals go_ret
  all_goals exact ⟨jC (by simp [mF,h]),rfl⟩
 ·go_enter Tryz.func166,Tryz.ntmps166;go_wp2
  all_goals go_ret
  all_goals exact ⟨jC (by simp [mF,h]),rfl⟩
set_option maxRecDepth 100000 in
set_option maxHeartbeats 1000000 in
theorem jIh (s:ByteArray) (w:World) (hs:s.size≤140737488355328) (hT:Hid (Lib.Utf8Tabs 1 2 w)) :
  Calls Tryz.prog 125 #[.string s] w fun e w'=>e = .returned (.int .i64 (wY s))∧Below w.heap.size w w':=by
 go_enter Tryz.func125,Tryz.ntmps125;go_wp2;go_loopw [] (fun wr=>∃ pos fuel:Nat,wr.heap[w.heap.size]?=some (.stringIter s pos)∧Below w.heap.size w wr∧Hid (fI s fuel pos=wY s)∧s.size≤pos+fuel) (fun wr=>s.size - wr.iterPos w.heap.size)
 case atStart=>exact ⟨0,s.size,World.iter_heap w s 0,(Below.refl _ _).alloc (Nat.le_refl _) _,rfl,by omega⟩
 case round=>
  obtain ⟨pos,fuel,hit,hbw,HS,hfu⟩:=hrel;have hpos0:=iterPos_of hit;by_cases hp:pos<s.size
  ·have hnx:∀ ty,(Instr.next (.pointer (some ⟨w.heap.size,0,none⟩)) true ty).run Tryz.prog wr=_:=fun ty=>Lib.run_next_any_at wr w.heap.size s pos ty hit hp
   have hwd:=Lib.decode_width_pos s pos hp;have hd1:=kJ s pos hp;obtain ⟨f,rfl⟩:∃ f,fuel=f+1:=⟨fuel - 1,by omega⟩
   have HS':Hid (wY s=if (Utf8.decode s pos).1=65533∧(Utf8.decode s pos).2<2 then (pos:Int) else fI s f (pos+(Utf8.decode s pos).2)):=Lib.hid (by rw [←HS.out,fI,if_pos hp])
   have hit2:=Lib.iterAt_heap wr w.heap.size s pos (pos+(Utf8.decode s pos).2) hit;have hbw2:=Lib.below_iterAt hbw (k:=w.heap.size) (Nat.le_refl _) s (pos+(Utf8.decode s pos).2);obtain ⟨W1,hW1⟩:∃ W1,W1=wr.iterAt w.heap.size s (pos+(Utf8.decode s pos).2):=⟨_,rfl⟩;have HD:Hid (Lib.decodeGo (s.extract pos s.size)=Utf8.decode s pos):=Lib.hid (by
    rw [Lib.decodeGo,if_neg (by simp; omega),Lib.tail_decode,Nat.add_zero])
   rw [←hW1] at hnx hit2 hbw2;clear hW1 hit hbw HS;have hBlt:=lt_of_block hit2;generalize hd:Utf8.decode s pos=d at *;clear hd;obtain ⟨r,k⟩:=d;dsimp only at hnx hwd hd1 HS' hit2;by_cases h53:r=65533
   ·subst h53;go_wp2_with (first | (go_at_call 165; refine (Tryz.qDecode _ _ (gN hT.out hbw2)).mono ?_; rintro e w' ⟨rfl,hb3⟩; rw [HD.out]) | (go_at_call 166; refine (jQy _ _ _).mono ?_; rintro e w' ⟨rfl,rfl⟩))
    ·have h:mF 65533 k=true:=by assumption
     have h2:k<2:=by simp [mF] at h; omega
     go_ret;exact ⟨qD (HS'.out.trans (if_pos ⟨trivial,h2⟩)).symm,hbw2.trans (hb3.mono hbw2.size)⟩
    ·have h:mF 65533 k=false:=by assumption
     have h2:¬ k<2:=by simp [mF] at h; omega
     have hit3:w'.heap[w.heap.size]?=some (.stringIter s (pos+k)):=(hb3.block _ hBlt).trans hit2;refine ⟨⟨pos+k,f,hit3,hbw2.trans (hb3.mono hbw2.size),Lib.hid (HS'.out.trans (if_neg (fun h=>h2 h.2))).symm,by omega⟩,?_⟩
     rw [iterPos_of hit3,hpos0]; omega
   ·go_wp2;refine ⟨⟨pos+k,f,hit2,hbw2,Lib.hid (HS'.out.trans (if_neg (fun h=>h53 h.1))).symm,by omega⟩,?_⟩
    rw [iterPos_of hit2,hpos0]; omega
  ·have hnx:∀ ty,(Instr.next (.pointer (some ⟨w.heap.size,0,none⟩)) true ty).run Tryz.prog wr=_:=fun ty=>Lib.run_next_end_at wr w.heap.size s pos ty hit hp
   have HE:Hid (wY s = -1):=Lib.hid (by
    rw [←HS.out];cases fuel with
    | zero=>rfl
    | succ f=>rw [fI,if_neg hp])
   go_wp2;go_ret;exact ⟨qD HE.out.symm,hbw⟩
set_option maxHeartbeats 1000000 in
theorem fX (r:Int) (w:World) :
  Calls Tryz.prog 124 #[.int .i32 r] w fun e w'=>e = .returned (.bool (zF r))∧w=w':=by
 go_enter Tryz.func124,Tryz.ntmps124;go_wp2
 all_goals go_ret
 all_goals exact ⟨jC (by unfold zF; rw [Bool.eq_iff_iff]; simp_all; try omega),rfl⟩
set_option maxRecDepth 100000 in
set_option maxHeartbeats 1000000 in
theorem qEi (s:ByteArray) (w:World) (hs:s.size≤140737488355328) (hT:Hid (Lib.Utf8Tabs 1 2 w)) :
  Calls Tryz.prog 116 #[.string s] w fun e w'=>e = .returned (.bool (jFt s))∧Below w.heap.size w w':=by
 go_enter Tryz.func116,Tryz.ntmps116;go_wp2;go_loopw [] (fun wr=>∃ pos fuel:Nat,wr.heap[w.heap.size]?=some (.stringIter s pos)∧Below w.heap.size w wr∧Hid (wB zF s fuel pos=wB zF s s.size 0)∧s.size≤pos+fuel) (fun wr=>s.size - wr.iterPos w.heap.size)
 case atStart=>exact ⟨0,s.size,World.iter_heap w s 0,(Below.refl _ _).alloc (Nat.le_refl _) _,rfl,by omega⟩
 case round=>
  obtain ⟨pos,fuel,hit,hbw,HS,hfu⟩:=hrel;have hpos0:=iterPos_of hit;by_cases hp:pos<s.size
  ·have hnx:∀ ty,(Instr.next (.pointer (some ⟨w.heap.size,0,none⟩)) true ty).run Tryz.prog wr=_:=fun ty=>Lib.run_next_any_at wr w.heap.size s pos ty hit hp
   have hwd:=Lib.decode_width_pos s pos hp;have hd1:=kJ s pos hp;obtain ⟨f,rfl⟩:∃ f,fuel=f+1:=⟨fuel - 1,by omega⟩
   have HS':Hid (wB zF s s.size 0=if zF (Utf8.decode s pos).1=true then wB zF s f (pos+(Utf8.decode s pos).2) else false):=Lib.hid (by rw [←HS.out,wB,if_pos hp])
   have hit2:=Lib.iterAt_heap wr w.heap.size s pos (pos+(Utf8.decode s pos).2) hit;have hbw2:=Lib.below_iterAt hbw (k:=w.heap.size) (Nat.le_refl _) s (pos+(Utf8.decode s pos).2);obtain ⟨W1,hW1⟩:∃ W1,W1=wr.iterAt w.heap.size s (pos+(Utf8.decode s pos).2):=⟨_,rfl⟩;rw [←hW1] at hnx hit2 hbw2;clear hW1 hit hbw HS;generalize hd:Utf8.decode s pos=d at *;clear hd;obtain ⟨r,k⟩:=d;dsimp only at hnx hwd hd1 HS' hit2;cases hpr:zF (r:Int)
   ·go_wp2_with (first | (go_at_call 124; refine (fX _ _).mono ?_; rintro e w' ⟨rfl,rfl⟩; rw [hpr]))
    go_ret;exact ⟨jC (by rw [jFt,HS'.out,hpr]; rfl),hbw2⟩
   ·go_wp2_with (first | (go_at_call 124; refine (fX _ _).mono ?_; rintro e w' ⟨rfl,rfl⟩; rw [hpr]))
    refine ⟨⟨pos+k,f,hit2,hbw2,Lib.hid (by rw [HS'.out,hpr]; rfl),by omega⟩,?_⟩
    rw [iterPos_of hit2,hpos0]; omega
  ·have hnx:∀ ty,(Instr.next (.pointer (some ⟨w.heap.size,0,none⟩)) true ty).run Tryz.prog wr=_:=fun ty=>Lib.run_next_end_at wr w.heap.size s pos ty hit hp
   have HE:Hid (wB zF s s.size 0=true):=Lib.hid (by
    rw [←HS.out];cases fuel with
    | zero=>rfl
    | succ f=>rw [wB,if_neg hp])
   go_wp2_with (go_at_call 125; refine (jIh s _ hs (Lib.hid (gN hT.out hbw))).mono ?_; rintro e w' ⟨rfl,hb3⟩);go_ret;exact ⟨jC (by rw [jFt,HE.out]; simp),hbw.trans (hb3.mono hbw.size)⟩
set_option maxRecDepth 100000 in
set_option maxHeartbeats 1000000 in
theorem aE (s:ByteArray) (w:World) (hs:s.size≤140737488355328) (hT:Hid (Lib.Utf8Tabs 1 2 w)) :
  Calls Tryz.prog 87 #[.string s] w fun e w'=>e = .returned (.bool (qN s))∧Below w.heap.size w w':=by
 go_enter Tryz.func87,Tryz.ntmps87;go_wp2;go_loopw [] (fun wr=>∃ pos fuel:Nat,wr.heap[w.heap.size]?=some (.stringIter s pos)∧Below w.heap.size w wr∧Hid (wB uX s fuel pos=wB uX s s.size 0)∧s.size≤pos+fuel) (fun wr=>s.size - wr.iterPos w.heap.size)
 case atStart=>exact ⟨0,s.size,World.iter_heap w s 0,(Below.refl _ _).alloc (Nat.le_refl _) _,rfl,by omega⟩
 case round=>
  obtain ⟨pos,fuel,hit,hbw,HS,hfu⟩:=hrel;have hpos0:=iterPos_of hit;by_cases hp:pos<s.size
  ·have hnx:∀ ty,(Instr.next (.pointer (some ⟨w.heap.size,0,none⟩)) true ty).run Tryz.prog wr=_:=fun ty=>Lib.run_next_any_at wr w.heap.size s pos ty hit hp
   have hwd:=Lib.decode_width_pos s pos hp;have hd1:=kJ s pos hp;obtain ⟨f,rfl⟩:∃ f,fuel=f+1:=⟨fuel - 1,by omega⟩
   have HS':Hid (wB uX s s.size 0=if uX (Utf8.decode s pos).1=true then wB uX s f (pos+(Utf8.decode s pos).2) else false):=Lib.hid (by rw [←HS.out,wB,if_pos hp])
   have hit2:=Lib.iterAt_heap wr w.heap.size s pos (pos+(Utf8.decode s pos).2) hit;have hbw2:=Lib.below_iterAt hbw (k:=w.heap.size) (Nat.le_refl _) s (pos+(Utf8.decode s pos).2);obtain ⟨W1,hW1⟩:∃ W1,W1=wr.iterAt w.heap.size s (pos+(Utf8.decode s pos).2):=⟨_,rfl⟩;rw [←hW1] at hnx hit2 hbw2;clear hW1 hit hbw HS;generalize hd:Utf8.decode s pos=d at *;clear hd;obtain ⟨r,k⟩:=d;dsimp only at hnx hwd hd1 HS' hit2;by_cases h10:r=10
   ·subst h10;go_wp2;go_ret;exact ⟨jC (by rw [qN,HS'.out]; rfl),hbw2⟩
   ·have hne:((r:Int)==10)=false:=by simp; omega
    cases hpr:zF (r:Int)
    ·go_wp2_with (first | (go_at_call 124; refine (fX _ _).mono ?_; rintro e w' ⟨rfl,rfl⟩; rw [hpr]))
     go_ret;exact ⟨jC (by rw [qN,HS'.out,uX,hpr]; simp),hbw2⟩
    ·go_wp2_with (first | (go_at_call 124; refine (fX _ _).mono ?_; rintro e w' ⟨rfl,rfl⟩; rw [hpr]))
     refine ⟨⟨pos+k,f,hit2,hbw2,Lib.hid (by rw [HS'.out,uX,hpr]; simp [bne,hne]),by omega⟩,?_⟩
     rw [iterPos_of hit2,hpos0]; omega
  ·have hnx:∀ ty,(Instr.next (.pointer (some ⟨w.heap.size,0,none⟩)) true ty).run Tryz.prog wr=_:=fun ty=>Lib.run_next_end_at wr w.heap.size s pos ty hit hp
   have HE:Hid (wB uX s s.size 0=true):=Lib.hid (by
    rw [←HS.out];cases fuel with
    | zero=>rfl
    | succ f=>rw [wB,if_neg hp])
   go_wp2_with (go_at_call 125; refine (jIh s _ hs (Lib.hid (gN hT.out hbw))).mono ?_; rintro e w' ⟨rfl,hb3⟩);go_ret;exact ⟨jC (by rw [qN,HE.out]; simp),hbw.trans (hb3.mono hbw.size)⟩
end
noncomputable section
set_option linter.all false
open Go.RowKit
set_option maxRecDepth 100000 in
set_option maxHeartbeats 2000000 in
theorem jYz (s:ByteArray) (flow:Bool) (w:World) (hs:s.size≤140737488355328) (hT:Hid (Lib.Utf8Tabs 1 2 w)) :
  Calls Tryz.prog 83 #[.string s,.bool flow] w fun e w'=>e = .returned (.bool (vA s flow))∧Below w.heap.size w w':=by
 have P1:Hid (∀ c,decide (0≤Lib.indexByte s.data.toList c)=eS s c):=Lib.hid fun _=>rfl;have P2:Hid (∀ p:ByteArray,Lib.hasPrefix s.data.toList p.data.toList=zW s p):=Lib.hid fun _=>rfl;cases h1:xC s flow
 ·go_enter Tryz.func83,Tryz.ntmps83;go_wp2_with (go_at_call 113; refine (tN s flow _ hs).mono ?_; rintro e w' ⟨rfl,rfl⟩; rw [h1]);go_ret;exact ⟨jC (by simp [vA,h1]),Below.refl _ _⟩
 ·by_cases h2:uC s flow=s.size
  ·have h2b:(uC s flow==s.size)=true:=by simpa using h2
   go_enter Tryz.func83,Tryz.ntmps83;go_wp2_with (first
    | (go_at_call 113; refine (tN s flow _ hs).mono ?_; rintro e w' ⟨rfl,rfl⟩; rw [h1])
    | (go_at_call 114; refine (jOs s flow _ hs).mono ?_; rintro e w1 ⟨rfl,hb1⟩; rw [h2])
    | (go_at_call 115; refine (Tryz.qContains1 s _ _).mono ?_; rintro e w' ⟨rfl,rfl⟩; rw [P1.out])
    | (go_at_call 116; refine (qEi s _ hs (Lib.hid (gN hT.out hb1))).mono ?_; rintro e w2 ⟨rfl,hb2⟩)
    | (go_at_call 117; refine (Tryz.qHasPrefix s _ _).mono ?_; rintro e w' ⟨rfl,rfl⟩; rw [P2.out]))
   all_goals go_ret
   all_goals refine ⟨jC ?_,by first | exact hb1.trans (hb2.mono hb1.size) | exact hb1⟩
   all_goals simp [vA,h1,h2b, *]
  ·have h2b:(uC s flow==s.size)=false:=by simpa using h2
   have h2c:(((uC s flow:Nat):Int) != (s.size:Int))=true:=by simp; omega
   go_enter Tryz.func83,Tryz.ntmps83;go_wp2_with (first
    | (go_at_call 113; refine (tN s flow _ hs).mono ?_; rintro e w' ⟨rfl,rfl⟩; rw [h1])
    | (go_at_call 114; refine (jOs s flow _ hs).mono ?_; rintro e w1 ⟨rfl,hb1⟩))
   all_goals go_ret
   all_goals exact ⟨jC (by simp [vA,h2b]),hb1⟩
end
end Go.Proofs.YtdlhiljbhepliaaGreatDoor
