/-
Plain functions of texts: what the functions of sign, rows, plai, text, pick compute that tell whether a text may stand plain. No program is named here.
-/
import Derived.Below
import Derived.WalkKit
import Derived.WalkSpells
import Derived.WalkLawsBesides
import Derived.Deep.Light
import Derived.Lib.Hide
import Derived.Lib.Strings
import Derived.Lib.RuneCountTail
import Derived.Lib.RuneCount
import Derived.Lib.Bytealg
import Derived.Test.YtngfdcnglojcaaaGreatDoorRows
import Derived.Test.YtngfdcnglojcaaaGreatDoorPsH
import Derived.Lib.OthersKept
import Derived.WalkSmall
section
namespace Go.Proofs.YtngfdcnglojcaaaGreatDoor
noncomputable section
open Go.RowKit
theorem jO {a b:Bool} (h:a=b):Ending.returned (.bool a)=Ending.returned (.bool b):=by rw [h]
theorem fQ {k:IntKind} {a b:Int} (h:a=b):Ending.returned (.int k a)=Ending.returned (.int k b):=by rw [h]
theorem zJ {a b:ByteArray} (h:a=b):Ending.returned (.string a)=Ending.returned (.string b):=by rw [h]
def mkS (l:List UInt8):ByteArray:=⟨l.toArray⟩
theorem jZc (l:List UInt8):(mkS l).size=l.length:=rfl
def jCi (s p:ByteArray):Bool:=Lib.hasPrefix s.data.toList p.data.toList
def bt (s:ByteArray) (k:Nat):Int:=if h:k<s.size then (s[k].toNat:Int) else 256
theorem pP (s:ByteArray) (k:Nat) (h:k<s.size):bt s k=(s[k].toNat:Int):=by rw [bt,dif_pos h]
theorem qGl (s:ByteArray) (k:Nat) (h:s.size≤k):bt s k=256:=by rw [bt,dif_neg (by omega)]
def wB (c:Int):Bool:=c==32||c==9
def jBc (c:Int):Bool:=c==44||c==91||c==93||c==123||c==125
def qHc (c:Int):Bool:=c==45||c==63||c==58||c==35||c==38||c==42||c==33||c==124||c==62||c==39||c==34||c==37||c==64||c==96||jBc c
def yW (r:Int):Bool:=r==9||r==10||(decide (32≤r)&&decide (r≤126))||r==133||(r != 65279&&((decide (160≤r)&&decide (r≤55295))||(decide (57344≤r)&&decide (r≤65533))||(decide (65536≤r)&&decide (r≤1114111))))
def dM (s:ByteArray) (k:Nat):Bool:=decide (s.size≤k)||wB (bt s k)||bt s k==10
def mP (s:ByteArray) (k:Nat) (flow:Bool):Bool:=dM s (k+1)||(flow&&jBc (bt s (k+1)))
def jMn (c:Int):Bool:=c==45||c==63||c==58
def bK (s:ByteArray) (flow:Bool):Bool := !dM s 0&&(if jMn (bt s 0)=true then !mP s 0 flow else !qHc (bt s 0))
def aI (s:ByteArray) (flow:Bool) (p:Nat):Bool:=if bt s p=35 then decide (0<p)&&wB (bt s (p - 1)) else if bt s p=58 then mP s p flow else flow&&jBc (bt s p)
def lfN (s:ByteArray):Nat:=if 0≤Lib.indexByte s.data.toList 10 then (Lib.indexByte s.data.toList 10).toNat else s.size
def pY (s:ByteArray) (flow:Bool) (t:ByteArray):Nat→Nat→Nat
 | 0,_=>t.size
 | f+1,p=>if p<t.size then (if aI s flow p=true then p else pY s flow t f (p+(Utf8.decode t p).2)) else t.size
def dQ (s:ByteArray):Nat→Nat
 | 0=>0
 | e+1=>if wB (bt s e)=true then dQ s e else e+1
def kD (s:ByteArray) (flow:Bool):Nat:=if s.size=0 then 0 else dQ s (pY s flow (s.extract 0 (lfN s)) (lfN s) 0)
def bI (c:Int→Bool) (s:ByteArray):Nat→Nat→Bool
 | 0,_=>true
 | f+1,p=>if p<s.size then (if c (Utf8.decode s p).1=true then bI c s f (p+(Utf8.decode s p).2) else false) else true
def iG (s:ByteArray):Nat→Nat→Int
 | 0,_ => -1
 | f+1,p=>if p<s.size then (if (Utf8.decode s p).1=65533∧(Utf8.decode s p).2<2 then (p:Int) else iG s f (p+(Utf8.decode s p).2)) else -1
def iH (s:ByteArray):Int:=iG s s.size 0
def jTi (s:ByteArray):Bool:=bI yW s s.size 0&&decide (iH s<0)
def fV (r:Int):Bool:=r != 10&&yW r
def vK (s:ByteArray):Bool:=bI fV s s.size 0&&decide (iH s<0)
def qDs (s:ByteArray) (c:UInt8):Bool:=decide (0≤Lib.indexByte s.data.toList c)
def vY (s:ByteArray) (flow:Bool):Bool:=
 bK s flow&&(kD s flow==s.size) && !qDs s 9 && !qDs s 10&&jTi s && !jCi s ⟨#[45,45,45]⟩ && !jCi s ⟨#[46,46,46]⟩
theorem tR (l:List UInt8) (c:UInt8):Lib.indexByte l c≤l.length:=by
 induction l with
 | nil=>simp [Lib.indexByte]
 | cons a r ih=>
  unfold Lib.indexByte
  split
  ·simp; omega
  ·split<;>simp<;>omega
theorem qHf (s:ByteArray):lfN s≤s.size:=by
 have h:=tR s.data.toList 10
 have e:s.data.toList.length=s.size:=by simp
 unfold lfN
 split<;>omega
end
end Go.Proofs.YtngfdcnglojcaaaGreatDoor
end
section
namespace Go.Proofs.YtngfdcnglojcaaaGreatDoor
noncomputable section
open Go.RowKit
set_option maxHeartbeats 400000 in
theorem wC (c:Int) (w:World) :
  Calls Tryz.prog 123 #[.int .u8 c] w fun e w'=>e = .returned (.bool (wB c))∧w=w':=by
 go_enter Tryz.func123,Tryz.ntmps123
 go_wp2
 all_goals go_ret
 all_goals exact ⟨jO (by simp [wB, *]),rfl⟩
set_option maxHeartbeats 400000 in
theorem jBd (c:Int) (w:World) :
  Calls Tryz.prog 156 #[.int .u8 c] w fun e w'=>e = .returned (.bool (jBc c))∧w=w':=by
 go_enter Tryz.func156,Tryz.ntmps156
 go_wp2
 all_goals go_ret
 all_goals exact ⟨jO (by simp [jBc, *]),rfl⟩
set_option maxHeartbeats 1000000 in
theorem jRq (c:Int) (w:World) :
  Calls Tryz.prog 120 #[.int .u8 c] w fun e w'=>e = .returned (.bool (qHc c))∧w=w':=by
 go_enter Tryz.func120,Tryz.ntmps120
 go_wp2_with (go_at_call 156; refine (jBd _ _).mono ?_; rintro e w' ⟨rfl,rfl⟩)
 all_goals go_ret
 all_goals exact ⟨jO (by simp [qHc, *]),rfl⟩
set_option maxHeartbeats 400000 in
theorem qDl (s:ByteArray) (k:Nat) (w:World) (hs:s.size≤140737488355328) (hk:k<s.size) :
  Calls Tryz.prog 118 #[.string s,.int .i64 k] w fun e w'=>e = .returned (.bool (dM s k))∧w=w':=by
 have d1:decide ((k:Int)<0)=false:=by simp
 have d2:decide (s.size≤k)=false:=by simp; omega
 have HE:Hid (dM s k=(wB (s[k].toNat:Int)||(s[k].toNat:Int)==10)):=Lib.hid (by rw [dM,d2,pP s k hk]; rfl)
 cases hw:wB (s[k].toNat:Int)
 ·go_enter Tryz.func118,Tryz.ntmps118
  go_wp2_with (go_at_call 123; refine (wC _ _).mono ?_; rintro e w' ⟨rfl,rfl⟩; rw [hw])
  go_ret
  exact ⟨jO (by rw [HE.out,hw]; rfl),rfl⟩
 ·go_enter Tryz.func118,Tryz.ntmps118
  go_wp2_with (go_at_call 123; refine (wC _ _).mono ?_; rintro e w' ⟨rfl,rfl⟩; rw [hw])
  go_ret
  exact ⟨jO (by rw [HE.out,hw]; rfl),rfl⟩
set_option maxHeartbeats 400000 in
theorem gG (s:ByteArray) (a:Int) (k:Nat) (w:World) (hs:s.size≤140737488355328) (ha:a=k) :
  Calls Tryz.prog 118 #[.string s,.int .i64 a] w fun e w'=>e = .returned (.bool (dM s k))∧w=w':=by
 subst ha
 by_cases hk:k<s.size
 ·exact qDl s k w hs hk
 ·have d1:decide ((k:Int)<0)=false:=by simp
  have d2:decide (s.size≤k)=true:=by simp; omega
  go_enter Tryz.func118,Tryz.ntmps118
  go_wp2
  go_ret
  have HE:Hid (dM s k=true):=Lib.hid (by rw [dM,d2]; rfl)
  exact ⟨jO HE.out.symm,rfl⟩
theorem jQy {s:ByteArray} {k:Nat} (h:dM s k=false):k<s.size:=by
 unfold dM at h
 simp at h
 omega
set_option maxHeartbeats 1000000 in
theorem jGh (s:ByteArray) (a:Int) (k:Nat) (flow:Bool) (w:World) (hs:s.size≤140737488355328) (ha:a=k) (hk:k<s.size) :
  Calls Tryz.prog 119 #[.string s,.int .i64 a,.bool flow] w fun e w'=>e = .returned (.bool (mP s k flow))∧w=w':=by
 subst ha
 cases he:dM s (k+1)
 ·have hlt:=jQy he
  have HB:Hid (bt s (k+1)=(s[k+1].toNat:Int)):=Lib.hid (pP s (k+1) hlt)
  cases flow
  ·go_enter Tryz.func119,Tryz.ntmps119
   go_wp2_with (first | (go_at_call 118; refine (gG s _ (k+1) _ hs (by omega)).mono ?_; rintro e w' ⟨rfl,rfl⟩; rw [he]))
   go_ret
   exact ⟨jO (by simp [mP,he]),rfl⟩
  ·go_enter Tryz.func119,Tryz.ntmps119
   go_wp2_with (first | (go_at_call 118; refine (gG s _ (k+1) _ hs (by omega)).mono ?_; rintro e w' ⟨rfl,rfl⟩; rw [he]) | (go_at_call 156; refine (jBd _ _).mono ?_; rintro e w' ⟨rfl,rfl⟩))
   all_goals go_ret
   all_goals exact ⟨jO (by simp [mP,he,HB.out, *]),rfl⟩
 ·go_enter Tryz.func119,Tryz.ntmps119
  go_wp2_with (first | (go_at_call 118; refine (gG s _ (k+1) _ hs (by omega)).mono ?_; rintro e w' ⟨rfl,rfl⟩; rw [he]))
  go_ret
  exact ⟨jO (by simp [mP,he]),rfl⟩
end
end Go.Proofs.YtngfdcnglojcaaaGreatDoor
end
section
set_option linter.all false
namespace Go.Proofs.YtngfdcnglojcaaaGreatDoor
noncomputable section
open Go.RowKit
theorem qDn (s:ByteArray):s.extract 0 s.size=s:=by
 apply ByteArray.ext
 simp
set_option maxHeartbeats 1000000 in
theorem rF (s:ByteArray) (flow:Bool) (w:World) (hs:s.size≤140737488355328) :
  Calls Tryz.prog 92 #[.string s,.int .i64 0,.bool flow] w fun e w'=>e = .returned (.bool (bK s flow))∧w=w':=by
 cases he:dM s 0
 ·have hlt:=jQy he
  have HB:Hid (bt s 0=(s[0].toNat:Int)):=Lib.hid (pP s 0 hlt)
  cases hg:jMn (bt s 0)
  ·have HG:Hid (jMn (s[0].toNat:Int)=false):=Lib.hid (by rw [←HB.out]; exact hg)
   have g1:((s[0].toNat:Int)==45)=false:=by have:=HG.out; simp [jMn] at this ⊢; omega
   have g2:((s[0].toNat:Int)==63)=false:=by have:=HG.out; simp [jMn] at this ⊢; omega
   have g3:((s[0].toNat:Int)==58)=false:=by have:=HG.out; simp [jMn] at this ⊢; omega
   go_enter Tryz.func92,Tryz.ntmps92
   go_wp2_with (first | (go_at_call 118; refine (gG s _ 0 _ hs rfl).mono ?_; rintro e w' ⟨rfl,rfl⟩; rw [he]) | (go_at_call 120; refine (jRq _ _).mono ?_; rintro e w' ⟨rfl,rfl⟩) | go_in)
   all_goals go_ret
   all_goals exact ⟨jO (by simp [bK,he,HB.out,HG.out]),rfl⟩
  ·have HG:Hid (jMn (s[0].toNat:Int)=true):=Lib.hid (by rw [←HB.out]; exact hg)
   go_enter Tryz.func92,Tryz.ntmps92
   go_wp2_with (first | (go_at_call 118; refine (gG s _ 0 _ hs rfl).mono ?_; rintro e w' ⟨rfl,rfl⟩; rw [he]) | (go_at_call 120; refine (jRq _ _).mono ?_; rintro e w' ⟨rfl,rfl⟩) | (go_at_call 119; refine (jGh s _ 0 flow _ hs rfl hlt).mono ?_; rintro e w' ⟨rfl,rfl⟩) | go_in)
   all_goals go_ret
   all_goals first | (exfalso; have:=HG.out; simp_all [jMn]; done) | exact ⟨jO (by simp [bK,he,hg]),rfl⟩
 ·by_cases h0:s.size=0
  ·have d1:decide (0<s.size)=false:=by rw [decide_eq_false_iff_not]; omega
   go_enter Tryz.func92,Tryz.ntmps92
   go_wp2_with go_in
   go_ret
   exact ⟨jO (by simp [bK,he]),rfl⟩
  ·have d1:decide (0<s.size)=true:=by rw [decide_eq_true_eq]; omega
   go_enter Tryz.func92,Tryz.ntmps92
   go_wp2_with (first | (go_at_call 118; refine (gG s _ 0 _ hs rfl).mono ?_; rintro e w' ⟨rfl,rfl⟩; rw [he]) | go_in)
   go_ret
   exact ⟨jO (by simp [bK,he]),rfl⟩
set_option maxHeartbeats 400000 in
theorem jKx (s:ByteArray) (w:World) (hs:s.size≤140737488355328) :
  Calls Tryz.prog 157 #[.string s,.int .i64 0] w fun e w'=>e = .returned (.int .i64 0)∧w=w':=by
 go_enter Tryz.func157,Tryz.ntmps157
 go_wp2
 all_goals go_ret
 all_goals exact ⟨fQ (by omega),rfl⟩
set_option maxRecDepth 100000 in
set_option maxHeartbeats 1000000 in
theorem qEn (s:ByteArray) (w:World) (hs:s.size≤140737488355328) :
  Calls Tryz.prog 121 #[.string s,.int .i64 0] w fun e w'=>∃ f:Int,e = .returned (.tuple #[.int .i64 f,.int .i64 (lfN s:Nat)])∧w=w':=by
 have HX:Hid (s.extract 0 s.size=s):=Lib.hid (qDn s)
 have hge:=Lib.indexByte_ge s.data.toList 10
 have hle:=tR s.data.toList 10
 have e:s.data.toList.length=s.size:=by simp
 cases hn:decide (0≤Lib.indexByte s.data.toList 10)
 ·have HL:Hid (lfN s=s.size):=Lib.hid (by unfold lfN; rw [if_neg (by simpa using hn)])
  go_enter Tryz.func121,Tryz.ntmps121
  go_wp2_with (first | (go_at_call 157; refine (jKx s _ hs).mono ?_; rintro e w' ⟨rfl,rfl⟩) | (go_at_call 158; refine (Tryz.qLastIndexByte _ _ (by first | omega | (simp; done) | (simp; omega)) _).mono ?_; rintro e w' ⟨rfl,rfl⟩) | (go_at_call 97; refine (Tryz.qIndexByte _ _ _).mono ?_; rintro e w' ⟨rfl,rfl⟩))
  go_ret2
  exact ⟨wrap64 (Lib.lastIndexByte ByteArray.empty 10+1),by rw [HL.out]; rfl,rfl⟩
 ·have HL:Hid (Lib.indexByte s.data.toList 10=(lfN s:Nat)):=Lib.hid (by
   have h:0≤Lib.indexByte s.data.toList 10:=by simpa using hn
   unfold lfN; rw [if_pos h]; omega)
  go_enter Tryz.func121,Tryz.ntmps121
  go_wp2_with (first | (go_at_call 157; refine (jKx s _ hs).mono ?_; rintro e w' ⟨rfl,rfl⟩) | (go_at_call 158; refine (Tryz.qLastIndexByte _ _ (by first | omega | (simp; done) | (simp; omega)) _).mono ?_; rintro e w' ⟨rfl,rfl⟩) | (go_at_call 97; refine (Tryz.qIndexByte _ _ _).mono ?_; rintro e w' ⟨rfl,rfl⟩))
  go_ret2
  exact ⟨wrap64 (Lib.lastIndexByte ByteArray.empty 10+1),by rw [HL.out]; rfl,rfl⟩
theorem qAk {s:ByteArray} {flow:Bool} {k:Nat} (hk:k<s.size):aI s flow k=if (s[k].toNat:Int)=35 then decide (0<k)&&wB (bt s (k - 1)) else if (s[k].toNat:Int)=58 then mP s k flow else flow&&jBc (s[k].toNat:Int):=by
 rw [aI,pP s k hk]
set_option maxHeartbeats 1000000 in
theorem jMw (s:ByteArray) (a:Int) (k:Nat) (flow:Bool) (w:World) (hs:s.size≤140737488355328) (ha:a=k) (hk:k<s.size) :
  Calls Tryz.prog 122 #[.string s,.int .i64 a,.bool flow] w fun e w'=>e = .returned (.bool (aI s flow k))∧w=w':=by
 subst ha
 have HS:=Lib.hid (qAk (flow:=flow) hk)
 by_cases h35:(s[k].toNat:Int)=35
 ·have HE:Hid (aI s flow k=(decide (0<k)&&wB (bt s (k - 1)))):=Lib.hid (by rw [HS.out,if_pos h35])
  by_cases h0:0<k
  ·have HB:Hid (bt s (k - 1)=(s[k - 1].toNat:Int)):=Lib.hid (pP s (k - 1) (by omega))
   go_enter Tryz.func122,Tryz.ntmps122
   go_wp2_with (go_at_call 123; refine (wC _ _).mono ?_; rintro e w' ⟨rfl,rfl⟩)
   go_ret
   refine ⟨jO ?_,rfl⟩
   rw [HE.out,HB.out]
   simp [h0]
  ·obtain rfl:k=0:=by omega
   go_enter Tryz.func122,Tryz.ntmps122
   go_wp2
   go_ret
   exact ⟨jO (by rw [HE.out]; simp),rfl⟩
 ·by_cases h58:(s[k].toNat:Int)=58
  ·have HE:Hid (aI s flow k=mP s k flow):=Lib.hid (by rw [HS.out,if_neg h35,if_pos h58])
   go_enter Tryz.func122,Tryz.ntmps122
   go_wp2_with (go_at_call 119; refine (jGh s _ k flow _ hs rfl hk).mono ?_; rintro e w' ⟨rfl,rfl⟩)
   go_ret
   exact ⟨jO HE.out.symm,rfl⟩
  ·have HE:Hid (aI s flow k=(flow&&jBc (s[k].toNat:Int))):=Lib.hid (by rw [HS.out,if_neg h35,if_neg h58])
   cases flow
   ·go_enter Tryz.func122,Tryz.ntmps122
    go_wp2
    go_ret
    exact ⟨jO (by rw [HE.out]; simp),rfl⟩
   ·go_enter Tryz.func122,Tryz.ntmps122
    go_wp2_with (go_at_call 156; refine (jBd _ _).mono ?_; rintro e w' ⟨rfl,rfl⟩)
    go_ret
    exact ⟨jO (by rw [HE.out]; simp),rfl⟩
end
end Go.Proofs.YtngfdcnglojcaaaGreatDoor
end
section
set_option linter.all false
namespace Go.Proofs.YtngfdcnglojcaaaGreatDoor
noncomputable section
open Go.RowKit
theorem vU (s:ByteArray) (k:Nat) (hk:k<s.size):(Utf8.decode s k).2≤s.size - k:=by
 unfold Utf8.decode
 simp only
 repeat' split
 all_goals simp_all
 all_goals omega
set_option maxRecDepth 100000 in
set_option maxHeartbeats 2000000 in
theorem jLw (s:ByteArray) (flow:Bool) (w:World) (hs:s.size≤140737488355328) :
  Calls Tryz.prog 93 #[.string s,.int .i64 0,.bool flow] w fun e w'=>e = .returned (.int .i64 (kD s flow:Nat))∧Below w.heap.size w w':=by
 by_cases h0:s.size=0
 ·have d1:decide (0<s.size)=false:=by rw [decide_eq_false_iff_not]; omega
  have HE:Hid (kD s flow=0):=Lib.hid (by rw [kD,if_pos h0])
  go_enter Tryz.func93,Tryz.ntmps93
  go_wp2_with go_in
  go_ret
  exact ⟨fQ (by rw [HE.out]; rfl),Below.refl _ _⟩
 ·have d1:decide (0<s.size)=true:=by rw [decide_eq_true_eq]; omega
  have hL:=qHf s
  obtain ⟨t,ht⟩:∃ t,t=s.extract 0 (lfN s):=⟨_,rfl⟩
  have HT:Hid (t=s.extract 0 (lfN s)):=Lib.hid ht
  have htz:t.size=lfN s:=by rw [ht]; simp; omega
  have HP:Hid (kD s flow=dQ s (pY s flow t (lfN s) 0)):=Lib.hid (by rw [kD,if_neg h0,ht])
  clear ht
  go_enter Tryz.func93,Tryz.ntmps93
  go_wp2_with (first | (go_at_call 121; refine (qEn s _ hs).mono ?_; rintro e w' ⟨f,rfl,rfl⟩; try rw [←HT.out]) | go_in)
  go_loopw [9] (fun v wr=>∃ pos fuel:Nat,v = .int .i64 (lfN s:Nat)∧wr.heap[w.heap.size]?=some (.stringIter t pos)∧Below w.heap.size w wr∧Hid (pY s flow t fuel pos=pY s flow t (lfN s) 0)∧t.size≤pos+fuel∧pos≤t.size) (fun _ wr=>t.size - wr.iterPos w.heap.size)
  case atStart=>exact ⟨0,lfN s,rfl,by rw [HT.out]; exact World.iter_heap w _ 0,(Below.refl _ _).alloc (Nat.le_refl _) _,rfl,by omega,by omega⟩
  case round=>
   obtain ⟨pos,fuel,rfl,hit,hbw,HS,hfu,hpt⟩:=hrel
   have hpos0:=iterPos_of hit
   by_cases hp:pos<t.size
   ·have hnx:∀ ty,(Instr.next (.pointer (some ⟨w.heap.size,0,none⟩)) true ty).run Tryz.prog wr=_:=fun ty=>Lib.run_next_any_at wr w.heap.size t pos ty hit hp
    have hwd:=Lib.decode_width_pos t pos hp
    have hd1:=vU t pos hp
    obtain ⟨f,rfl⟩:∃ f,fuel=f+1:=⟨fuel - 1,by omega⟩
    have HS':Hid (pY s flow t (lfN s) 0=if aI s flow pos=true then pos else pY s flow t f (pos+(Utf8.decode t pos).2)):=Lib.hid (by rw [←HS.out,pY,if_pos hp])
    have hit2:=Lib.iterAt_heap wr w.heap.size t pos (pos+(Utf8.decode t pos).2) hit
    have hbw2:=Lib.below_iterAt hbw (k:=w.heap.size) (Nat.le_refl _) t (pos+(Utf8.decode t pos).2)
    obtain ⟨W1,hW1⟩:∃ W1,W1=wr.iterAt w.heap.size t (pos+(Utf8.decode t pos).2):=⟨_,rfl⟩
    rw [←hW1] at hnx hit2 hbw2
    clear hW1 hit hbw HS
    have hBlt:=lt_of_block hit2
    generalize hd:Utf8.decode t pos=d at *
    clear hd
    obtain ⟨r,k⟩:=d
    dsimp only at hnx hwd hd1 HS' hit2
    cases hst:aI s flow pos
    ·go_wp2_with (first | (go_at_call 122; refine (jMw s _ pos flow _ hs rfl (by omega)).mono ?_; rintro e w' ⟨rfl,rfl⟩; rw [hst]))
     refine ⟨⟨pos+k,f,rfl,hit2,hbw2,Lib.hid (by rw [HS'.out,hst]; rfl),by omega,by omega⟩,?_⟩
     rw [iterPos_of hit2,hpos0]; omega
    ·have HE:Hid (kD s flow=dQ s pos):=Lib.hid (by rw [HP.out,HS'.out,hst]; rfl)
     go_wp2_with (first | (go_at_call 122; refine (jMw s _ pos flow _ hs rfl (by omega)).mono ?_; rintro e w' ⟨rfl,rfl⟩; rw [hst]))
     go_loop [9] (fun v=>∃ e:Nat,v = .int .i64 e∧e≤s.size∧Hid (kD s flow=dQ s e)) (fun v=>(intOf v).toNat)
     case atStart=>exact ⟨_,rfl,by omega,HE⟩
     case round=>
      obtain ⟨e,rfl,he,HR⟩:=hrel
      by_cases hz:0<e
      ·have hlt:e - 1<s.size:=by omega
       obtain ⟨m,rfl⟩:∃ m,e=m+1:=⟨e - 1,by omega⟩
       have HB:Hid (kD s flow=if wB (s[m].toNat:Int)=true then dQ s m else m+1):=Lib.hid (by rw [HR.out,dQ,pP s m (by omega)])
       cases hw:wB (s[m].toNat:Int)
       ·go_wp2_with (go_at_call 123; refine (wC _ _).mono ?_; rintro e w' ⟨rfl,rfl⟩; rw [hw])
        go_ret
        exact ⟨fQ (by rw [HB.out,hw]; simp),hbw2⟩
       ·go_wp2_with (go_at_call 123; refine (wC _ _).mono ?_; rintro e w' ⟨rfl,rfl⟩; rw [hw])
        refine ⟨⟨m,by go_num,by omega,Lib.hid (by rw [HB.out,hw]; rfl)⟩,by simp [intOf]⟩
      ·obtain rfl:e=0:=by omega
       go_wp2
       go_ret
       exact ⟨fQ (by rw [HR.out]; rfl),hbw2⟩
   ·have hnx:∀ ty,(Instr.next (.pointer (some ⟨w.heap.size,0,none⟩)) true ty).run Tryz.prog wr=_:=fun ty=>Lib.run_next_end_at wr w.heap.size t pos ty hit hp
    have HE:Hid (kD s flow=dQ s (lfN s)):=Lib.hid (by
     rw [HP.out,←HS.out]
     cases fuel with
     | zero=>rw [pY,htz]
     | succ f=>rw [pY,if_neg hp,htz])
    go_wp2
    generalize lfN s=e0 at *
    go_loop [9] (fun v=>∃ e:Nat,v = .int .i64 e∧e≤s.size∧Hid (kD s flow=dQ s e)) (fun v=>(intOf v).toNat)
    case atStart=>exact ⟨_,rfl,by omega,HE⟩
    case round=>
     obtain ⟨e,rfl,he,HR⟩:=hrel
     by_cases hz:0<e
     ·have hlt:e - 1<s.size:=by omega
      obtain ⟨m,rfl⟩:∃ m,e=m+1:=⟨e - 1,by omega⟩
      have HB:Hid (kD s flow=if wB (s[m].toNat:Int)=true then dQ s m else m+1):=Lib.hid (by rw [HR.out,dQ,pP s m (by omega)])
      cases hw:wB (s[m].toNat:Int)
      ·go_wp2_with (go_at_call 123; refine (wC _ _).mono ?_; rintro e w' ⟨rfl,rfl⟩; rw [hw])
       go_ret
       exact ⟨fQ (by rw [HB.out,hw]; simp),hbw⟩
      ·go_wp2_with (go_at_call 123; refine (wC _ _).mono ?_; rintro e w' ⟨rfl,rfl⟩; rw [hw])
       refine ⟨⟨m,by go_num,by omega,Lib.hid (by rw [HB.out,hw]; rfl)⟩,by simp [intOf]⟩
     ·obtain rfl:e=0:=by omega
      go_wp2
      go_ret
      exact ⟨fQ (by rw [HR.out]; rfl),hbw⟩
end
end Go.Proofs.YtngfdcnglojcaaaGreatDoor
end
section
set_option linter.all false
namespace Go.Proofs.YtngfdcnglojcaaaGreatDoor
noncomputable section
open Go.RowKit
theorem fA {w w':World} {g3 g4:Nat} (h:Lib.Utf8Tabs g3 g4 w) (hb:Below w.heap.size w w'):Lib.Utf8Tabs g3 g4 w':=by
 have lt:∀ (b o:Nat) (v:Value),w.cell? ⟨b,o,none⟩=some v→b<w.heap.size:=by
  intro b o v hc
  rcases Nat.lt_or_ge b w.heap.size with hlt | hge
  ·exact hlt
  ·unfold World.cell? at hc
   simp [Array.getElem?_eq_none hge] at hc
 have l3:=lt _ _ _ (h.1 0 (by decide))
 have l4:=lt _ _ _ (h.2 0 (by decide)).1
 exact ⟨fun c hc=>(hb.cell (p:=⟨g3,c,none⟩) l3).trans (h.1 c hc),fun i hi=>⟨(hb.cell (p:=⟨g4,2*i,none⟩) l4).trans (h.2 i hi).1,(hb.cell (p:=⟨g4,2*i+1,none⟩) l4).trans (h.2 i hi).2⟩⟩
def bO (r size:Int):Bool:=r==65533&&decide (size<2)
set_option maxHeartbeats 400000 in
theorem jNz (r size:Int) (w:World) :
  Calls Tryz.prog 140 #[.int .i32 r,.int .i64 size] w fun e w'=>e = .returned (.bool (bO r size))∧w=w':=by
 cases h:(r==65533)
 ·go_enter Tryz.func140,Tryz.ntmps140
  go_wp2
  all_goals go_ret
  all_goals exact ⟨jO (by simp [bO,h]),rfl⟩
 ·go_enter Tryz.func140,Tryz.ntmps140
  go_wp2
  all_goals go_ret
  all_goals exact ⟨jO (by simp [bO,h]),rfl⟩
set_option maxRecDepth 100000 in
set_option maxHeartbeats 1000000 in
theorem jFq (s:ByteArray) (w:World) (hs:s.size≤140737488355328) (hT:Hid (Lib.Utf8Tabs 1 2 w)) :
  Calls Tryz.prog 104 #[.string s] w fun e w'=>e = .returned (.int .i64 (iH s))∧Below w.heap.size w w':=by
 go_enter Tryz.func104,Tryz.ntmps104
 go_wp2
 go_loopw [] (fun wr=>∃ pos fuel:Nat,wr.heap[w.heap.size]?=some (.stringIter s pos)∧Below w.heap.size w wr∧Hid (iG s fuel pos=iH s)∧s.size≤pos+fuel) (fun wr=>s.size - wr.iterPos w.heap.size)
 case atStart=>exact ⟨0,s.size,World.iter_heap w s 0,(Below.refl _ _).alloc (Nat.le_refl _) _,rfl,by omega⟩
 case round=>
  obtain ⟨pos,fuel,hit,hbw,HS,hfu⟩:=hrel
  have hpos0:=iterPos_of hit
  by_cases hp:pos<s.size
  ·have hnx:∀ ty,(Instr.next (.pointer (some ⟨w.heap.size,0,none⟩)) true ty).run Tryz.prog wr=_:=fun ty=>Lib.run_next_any_at wr w.heap.size s pos ty hit hp
   have hwd:=Lib.decode_width_pos s pos hp
   have hd1:=vU s pos hp
   obtain ⟨f,rfl⟩:∃ f,fuel=f+1:=⟨fuel - 1,by omega⟩
   have HS':Hid (iH s=if (Utf8.decode s pos).1=65533∧(Utf8.decode s pos).2<2 then (pos:Int) else iG s f (pos+(Utf8.decode s pos).2)):=Lib.hid (by rw [←HS.out,iG,if_pos hp])
   have hit2:=Lib.iterAt_heap wr w.heap.size s pos (pos+(Utf8.decode s pos).2) hit
   have hbw2:=Lib.below_iterAt hbw (k:=w.heap.size) (Nat.le_refl _) s (pos+(Utf8.decode s pos).2)
   obtain ⟨W1,hW1⟩:∃ W1,W1=wr.iterAt w.heap.size s (pos+(Utf8.decode s pos).2):=⟨_,rfl⟩
   have HD:Hid (Lib.decodeGo (s.extract pos s.size)=Utf8.decode s pos):=Lib.hid (by
    rw [Lib.decodeGo,if_neg (by simp; omega),Lib.tail_decode,Nat.add_zero])
   rw [←hW1] at hnx hit2 hbw2
   clear hW1 hit hbw HS
   have hBlt:=lt_of_block hit2
   generalize hd:Utf8.decode s pos=d at *
   clear hd
   obtain ⟨r,k⟩:=d
   dsimp only at hnx hwd hd1 HS' hit2
   by_cases h53:r=65533
   ·subst h53
    go_wp2_with (first | (go_at_call 139; refine (Tryz.qDecode _ _ (fA hT.out hbw2)).mono ?_; rintro e w' ⟨rfl,hb3⟩; rw [HD.out]) | (go_at_call 140; refine (jNz _ _ _).mono ?_; rintro e w' ⟨rfl,rfl⟩))
    ·have h:bO 65533 k=true:=by assumption
     have h2:k<2:=by simp [bO] at h; omega
     go_ret
     exact ⟨fQ (HS'.out.trans (if_pos ⟨trivial,h2⟩)).symm,hbw2.trans (hb3.mono hbw2.size)⟩
    ·have h:bO 65533 k=false:=by assumption
     have h2:¬ k<2:=by simp [bO] at h; omega
     have hit3:w'.heap[w.heap.size]?=some (.stringIter s (pos+k)):=(hb3.block _ hBlt).trans hit2
     refine ⟨⟨pos+k,f,hit3,hbw2.trans (hb3.mono hbw2.size),Lib.hid (HS'.out.trans (if_neg (fun h=>h2 h.2))).symm,by omega⟩,?_⟩
     rw [iterPos_of hit3,hpos0]; omega
   ·go_wp2
    refine ⟨⟨pos+k,f,hit2,hbw2,Lib.hid (HS'.out.trans (if_neg (fun h=>h53 h.1))).symm,by omega⟩,?_⟩
    rw [iterPos_of hit2,hpos0]; omega
  ·have hnx:∀ ty,(Instr.next (.pointer (some ⟨w.heap.size,0,none⟩)) true ty).run Tryz.prog wr=_:=fun ty=>Lib.run_next_end_at wr w.heap.size s pos ty hit hp
   have HE:Hid (iH s = -1):=Lib.hid (by
    rw [←HS.out]
    cases fuel with
    | zero=>rfl
    | succ f=>rw [iG,if_neg hp])
   go_wp2
   go_ret
   exact ⟨fQ HE.out.symm,hbw⟩
set_option maxHeartbeats 1000000 in
theorem kN (r:Int) (w:World) :
  Calls Tryz.prog 103 #[.int .i32 r] w fun e w'=>e = .returned (.bool (yW r))∧w=w':=by
 go_enter Tryz.func103,Tryz.ntmps103
 go_wp2
 all_goals go_ret
 all_goals exact ⟨jO (by unfold yW; rw [Bool.eq_iff_iff]; simp_all; try omega),rfl⟩
set_option maxRecDepth 100000 in
set_option maxHeartbeats 1000000 in
theorem qAp (s:ByteArray) (w:World) (hs:s.size≤140737488355328) (hT:Hid (Lib.Utf8Tabs 1 2 w)) :
  Calls Tryz.prog 95 #[.string s] w fun e w'=>e = .returned (.bool (jTi s))∧Below w.heap.size w w':=by
 go_enter Tryz.func95,Tryz.ntmps95
 go_wp2
 go_loopw [] (fun wr=>∃ pos fuel:Nat,wr.heap[w.heap.size]?=some (.stringIter s pos)∧Below w.heap.size w wr∧Hid (bI yW s fuel pos=bI yW s s.size 0)∧s.size≤pos+fuel) (fun wr=>s.size - wr.iterPos w.heap.size)
 case atStart=>exact ⟨0,s.size,World.iter_heap w s 0,(Below.refl _ _).alloc (Nat.le_refl _) _,rfl,by omega⟩
 case round=>
  obtain ⟨pos,fuel,hit,hbw,HS,hfu⟩:=hrel
  have hpos0:=iterPos_of hit
  by_cases hp:pos<s.size
  ·have hnx:∀ ty,(Instr.next (.pointer (some ⟨w.heap.size,0,none⟩)) true ty).run Tryz.prog wr=_:=fun ty=>Lib.run_next_any_at wr w.heap.size s pos ty hit hp
   have hwd:=Lib.decode_width_pos s pos hp
   have hd1:=vU s pos hp
   obtain ⟨f,rfl⟩:∃ f,fuel=f+1:=⟨fuel - 1,by omega⟩
   have HS':Hid (bI yW s s.size 0=if yW (Utf8.decode s pos).1=true then bI yW s f (pos+(Utf8.decode s pos).2) else false):=Lib.hid (by rw [←HS.out,bI,if_pos hp])
   have hit2:=Lib.iterAt_heap wr w.heap.size s pos (pos+(Utf8.decode s pos).2) hit
   have hbw2:=Lib.below_iterAt hbw (k:=w.heap.size) (Nat.le_refl _) s (pos+(Utf8.decode s pos).2)
   obtain ⟨W1,hW1⟩:∃ W1,W1=wr.iterAt w.heap.size s (pos+(Utf8.decode s pos).2):=⟨_,rfl⟩
   rw [←hW1] at hnx hit2 hbw2
   clear hW1 hit hbw HS
   generalize hd:Utf8.decode s pos=d at *
   clear hd
   obtain ⟨r,k⟩:=d
   dsimp only at hnx hwd hd1 HS' hit2
   cases hpr:yW (r:Int)
   ·go_wp2_with (first | (go_at_call 103; refine (kN _ _).mono ?_; rintro e w' ⟨rfl,rfl⟩; rw [hpr]))
    go_ret
    exact ⟨jO (by rw [jTi,HS'.out,hpr]; rfl),hbw2⟩
   ·go_wp2_with (first | (go_at_call 103; refine (kN _ _).mono ?_; rintro e w' ⟨rfl,rfl⟩; rw [hpr]))
    refine ⟨⟨pos+k,f,hit2,hbw2,Lib.hid (by rw [HS'.out,hpr]; rfl),by omega⟩,?_⟩
    rw [iterPos_of hit2,hpos0]; omega
  ·have hnx:∀ ty,(Instr.next (.pointer (some ⟨w.heap.size,0,none⟩)) true ty).run Tryz.prog wr=_:=fun ty=>Lib.run_next_end_at wr w.heap.size s pos ty hit hp
   have HE:Hid (bI yW s s.size 0=true):=Lib.hid (by
    rw [←HS.out]
    cases fuel with
    | zero=>rfl
    | succ f=>rw [bI,if_neg hp])
   go_wp2_with (go_at_call 104; refine (jFq s _ hs (Lib.hid (fA hT.out hbw))).mono ?_; rintro e w' ⟨rfl,hb3⟩)
   go_ret
   exact ⟨jO (by rw [jTi,HE.out]; simp),hbw.trans (hb3.mono hbw.size)⟩
set_option maxRecDepth 100000 in
set_option maxHeartbeats 1000000 in
theorem sL (s:ByteArray) (w:World) (hs:s.size≤140737488355328) (hT:Hid (Lib.Utf8Tabs 1 2 w)) :
  Calls Tryz.prog 72 #[.string s] w fun e w'=>e = .returned (.bool (vK s))∧Below w.heap.size w w':=by
 go_enter Tryz.func72,Tryz.ntmps72
 go_wp2
 go_loopw [] (fun wr=>∃ pos fuel:Nat,wr.heap[w.heap.size]?=some (.stringIter s pos)∧Below w.heap.size w wr∧Hid (bI fV s fuel pos=bI fV s s.size 0)∧s.size≤pos+fuel) (fun wr=>s.size - wr.iterPos w.heap.size)
 case atStart=>exact ⟨0,s.size,World.iter_heap w s 0,(Below.refl _ _).alloc (Nat.le_refl _) _,rfl,by omega⟩
 case round=>
  obtain ⟨pos,fuel,hit,hbw,HS,hfu⟩:=hrel
  have hpos0:=iterPos_of hit
  by_cases hp:pos<s.size
  ·have hnx:∀ ty,(Instr.next (.pointer (some ⟨w.heap.size,0,none⟩)) true ty).run Tryz.prog wr=_:=fun ty=>Lib.run_next_any_at wr w.heap.size s pos ty hit hp
   have hwd:=Lib.decode_width_pos s pos hp
   have hd1:=vU s pos hp
   obtain ⟨f,rfl⟩:∃ f,fuel=f+1:=⟨fuel - 1,by omega⟩
   have HS':Hid (bI fV s s.size 0=if fV (Utf8.decode s pos).1=true then bI fV s f (pos+(Utf8.decode s pos).2) else false):=Lib.hid (by rw [←HS.out,bI,if_pos hp])
   have hit2:=Lib.iterAt_heap wr w.heap.size s pos (pos+(Utf8.decode s pos).2) hit
   have hbw2:=Lib.below_iterAt hbw (k:=w.heap.size) (Nat.le_refl _) s (pos+(Utf8.decode s pos).2)
   obtain ⟨W1,hW1⟩:∃ W1,W1=wr.iterAt w.heap.size s (pos+(Utf8.decode s pos).2):=⟨_,rfl⟩
   rw [←hW1] at hnx hit2 hbw2
   clear hW1 hit hbw HS
   generalize hd:Utf8.decode s pos=d at *
   clear hd
   obtain ⟨r,k⟩:=d
   dsimp only at hnx hwd hd1 HS' hit2
   by_cases h10:r=10
   ·subst h10
    go_wp2
    go_ret
    exact ⟨jO (by rw [vK,HS'.out]; rfl),hbw2⟩
   ·have hne:((r:Int)==10)=false:=by simp; omega
    cases hpr:yW (r:Int)
    ·go_wp2_with (first | (go_at_call 103; refine (kN _ _).mono ?_; rintro e w' ⟨rfl,rfl⟩; rw [hpr]))
     go_ret
     exact ⟨jO (by rw [vK,HS'.out,fV,hpr]; simp),hbw2⟩
    ·go_wp2_with (first | (go_at_call 103; refine (kN _ _).mono ?_; rintro e w' ⟨rfl,rfl⟩; rw [hpr]))
     refine ⟨⟨pos+k,f,hit2,hbw2,Lib.hid (by rw [HS'.out,fV,hpr]; simp [bne,hne]),by omega⟩,?_⟩
     rw [iterPos_of hit2,hpos0]; omega
  ·have hnx:∀ ty,(Instr.next (.pointer (some ⟨w.heap.size,0,none⟩)) true ty).run Tryz.prog wr=_:=fun ty=>Lib.run_next_end_at wr w.heap.size s pos ty hit hp
   have HE:Hid (bI fV s s.size 0=true):=Lib.hid (by
    rw [←HS.out]
    cases fuel with
    | zero=>rfl
    | succ f=>rw [bI,if_neg hp])
   go_wp2_with (go_at_call 104; refine (jFq s _ hs (Lib.hid (fA hT.out hbw))).mono ?_; rintro e w' ⟨rfl,hb3⟩)
   go_ret
   exact ⟨jO (by rw [vK,HE.out]; simp),hbw.trans (hb3.mono hbw.size)⟩
end
end Go.Proofs.YtngfdcnglojcaaaGreatDoor
end
section
set_option linter.all false
namespace Go.Proofs.YtngfdcnglojcaaaGreatDoor
noncomputable section
open Go.RowKit
set_option maxRecDepth 100000 in
set_option maxHeartbeats 2000000 in
theorem jVv (s:ByteArray) (flow:Bool) (w:World) (hs:s.size≤140737488355328) (hT:Hid (Lib.Utf8Tabs 1 2 w)) :
  Calls Tryz.prog 68 #[.string s,.bool flow] w fun e w'=>e = .returned (.bool (vY s flow))∧Below w.heap.size w w':=by
 have P1:Hid (∀ c,decide (0≤Lib.indexByte s.data.toList c)=qDs s c):=Lib.hid fun _=>rfl
 have P2:Hid (∀ p:ByteArray,Lib.hasPrefix s.data.toList p.data.toList=jCi s p):=Lib.hid fun _=>rfl
 cases h1:bK s flow
 ·go_enter Tryz.func68,Tryz.ntmps68
  go_wp2_with (go_at_call 92; refine (rF s flow _ hs).mono ?_; rintro e w' ⟨rfl,rfl⟩; rw [h1])
  go_ret
  exact ⟨jO (by simp [vY,h1]),Below.refl _ _⟩
 ·by_cases h2:kD s flow=s.size
  ·have h2b:(kD s flow==s.size)=true:=by simpa using h2
   go_enter Tryz.func68,Tryz.ntmps68
   go_wp2_with (first
    | (go_at_call 92; refine (rF s flow _ hs).mono ?_; rintro e w' ⟨rfl,rfl⟩; rw [h1])
    | (go_at_call 93; refine (jLw s flow _ hs).mono ?_; rintro e w1 ⟨rfl,hb1⟩; rw [h2])
    | (go_at_call 94; refine (Tryz.qContains1 s _ _).mono ?_; rintro e w' ⟨rfl,rfl⟩; rw [P1.out])
    | (go_at_call 95; refine (qAp s _ hs (Lib.hid (fA hT.out hb1))).mono ?_; rintro e w2 ⟨rfl,hb2⟩)
    | (go_at_call 96; refine (Tryz.qHasPrefix s _ _).mono ?_; rintro e w' ⟨rfl,rfl⟩; rw [P2.out]))
   all_goals go_ret
   all_goals refine ⟨jO ?_,by first | exact hb1.trans (hb2.mono hb1.size) | exact hb1⟩
   all_goals simp [vY,h1,h2b, *]
  ·have h2b:(kD s flow==s.size)=false:=by simpa using h2
   have h2c:(((kD s flow:Nat):Int) != (s.size:Int))=true:=by simp; omega
   go_enter Tryz.func68,Tryz.ntmps68
   go_wp2_with (first
    | (go_at_call 92; refine (rF s flow _ hs).mono ?_; rintro e w' ⟨rfl,rfl⟩; rw [h1])
    | (go_at_call 93; refine (jLw s flow _ hs).mono ?_; rintro e w1 ⟨rfl,hb1⟩))
   all_goals go_ret
   all_goals exact ⟨jO (by simp [vY,h2b]),hb1⟩
end
end Go.Proofs.YtngfdcnglojcaaaGreatDoor
end
