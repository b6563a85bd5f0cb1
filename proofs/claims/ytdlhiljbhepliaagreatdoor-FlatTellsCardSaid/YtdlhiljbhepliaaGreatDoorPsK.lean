/-
core's functions that tell whether a plain text is a number: what they compute ('wholeS', 'floatS').
-/
import Derived.Lib.ItoaWalk
import Derived.Laws.EntriesVeiled
import Derived.Lib.Builder
import Derived.Test.YtdlhiljbhepliaaGreatDoorPsG
import Derived.Lib.IndexLaws
import Derived.Lib.SpaceUEq
import Derived.Lib.MapLaws
namespace Go.Proofs.YtdlhiljbhepliaaGreatDoor
noncomputable section
set_option linter.all false
open Go.RowKit
def fF (s p:ByteArray):ByteArray:=mkS (Lib.trimPrefix s.data.toList p.data.toList)
def qEj (s c:ByteArray):ByteArray:=⟨(Lib.trimS s.data.toList c.data.toList).toArray⟩
def jQa (s c:ByteArray):ByteArray:=⟨(Lib.trimLeftS s.data.toList c.data.toList).toArray⟩
def oct:ByteArray:=⟨#[48,49,50,51,52,53,54,55]⟩
def dec:ByteArray:=⟨#[48,49,50,51,52,53,54,55,56,57]⟩
def jYh:ByteArray:=⟨#[48,49,50,51,52,53,54,55,56,57,97,98,99,100,101,102,65,66,67,68,69,70]⟩
def gS (s c:ByteArray):Bool := !s.toList.isEmpty&&(qEj s c).toList.isEmpty
def uA (s:ByteArray):ByteArray:=if bt s 0=43∨bt s 0=45 then s.extract 1 s.size else s
def gR (s:ByteArray):Bool:=if zW s ⟨#[48,111]⟩=true then gS (fF s ⟨#[48,111]⟩) oct else if zW s ⟨#[48,120]⟩=true then gS (fF s ⟨#[48,120]⟩) jYh else gS (uA s) dec
theorem jFu (s c:ByteArray):(jQa s c).size≤s.size:=by
 have h:(jQa s c).size=(Lib.trimLeftS s.data.toList c.data.toList).length:=by simp [jQa,ByteArray.size]
 have h2:=(List.dropWhile_sublist (c.data.toList.contains ·) (l:=s.data.toList)).length_le;have h3:s.data.toList.length=s.size:=by simp
 rw [h,Lib.trimLeftS];omega
theorem jUg (s p:ByteArray):(fF s p).size≤s.size:=by
 unfold fF;rw [qCt,Lib.trimPrefix];split
 ·simp
 ·simp
theorem mZ (s:ByteArray):(uA s).size≤s.size:=by
 unfold uA;split
 ·simp
 ·exact Nat.le_refl _
set_option maxHeartbeats 1000000 in
theorem mB (s c:ByteArray) (w:World) (hs:s.size≤4200000000) (hc:c.size≤1000) (ha:c.data.toList.all (fun b=>decide (b.toNat<128))=true) :
  Calls Tryz.prog 192 #[.string s,.string c] w fun e w'=>e = .returned (.bool (gS s c))∧Below w.heap.size w w':=by
 have HT:Hid (qEj s c=⟨(Lib.trimS s.data.toList c.data.toList).toArray⟩):=Lib.hid rfl;cases h0:s.toList.isEmpty
 ·go_enter Tryz.func192,Tryz.ntmps192;go_wp2_with (go_at_call 121; refine (Tryz.qTrim s c _ (by omega) (by omega) ha).mono ?_; rintro e w1 ⟨rfl,hb1⟩; rw [←HT.out])
  go_ret;exact ⟨jC (by simp [gS,h0]),hb1⟩
 ·go_enter Tryz.func192,Tryz.ntmps192;go_wp2;go_ret;exact ⟨jC (by simp [gS,h0]),Below.refl _ _⟩
theorem oO {s:ByteArray} (h:s.toList.isEmpty=false):0<s.size:=by
 rw [Lib.toList_data] at h;have e:s.data.toList.length=s.size:=by simp
 cases hs:s.data.toList with
 | nil=>rw [hs] at h; cases h
 | cons a r=>rw [hs,List.length_cons] at e; omega
set_option maxHeartbeats 1000000 in
theorem sM (s:ByteArray) (w:World) (hs:s.size≤4200000000) :
  Calls Tryz.prog 193 #[.string s] w fun e w'=>e = .returned (.string (uA s))∧w=w':=by
 cases h0:s.toList.isEmpty
 ·have hp:=oO h0;have HB:Hid (bt s 0=(s[0].toNat:Int)):=Lib.hid (xU s 0 hp);go_enter Tryz.func193,Tryz.ntmps193;go_wp2
  all_goals go_ret
  all_goals exact ⟨jL (by unfold uA; rw [HB.out]; simp_all),rfl⟩
 ·have hp:s.size=0:=by
   rw [Lib.toList_data] at h0;have:s.data.toList=[]:=by simpa using h0
   have h2:s.data.toList.length=0:=by rw [this]; rfl
   simpa using h2
  go_enter Tryz.func193,Tryz.ntmps193;go_wp2;go_ret;exact ⟨jL (by unfold uA; rw [tP s 0 (by omega),if_neg (by decide)]),rfl⟩
set_option maxHeartbeats 2000000 in
theorem jZq (s:ByteArray) (w:World) (hs:s.size≤4200000000) :
  Calls Tryz.prog 162 #[.string s] w fun e w'=>e = .returned (.bool (gR s))∧Below w.heap.size w w':=by
 have P2:Hid (∀ p:ByteArray,Lib.hasPrefix s.data.toList p.data.toList=zW s p):=Lib.hid fun _=>rfl;have P3:Hid (∀ p:ByteArray,(⟨(Lib.trimPrefix s.data.toList p.data.toList).toArray⟩:ByteArray)=fF s p):=Lib.hid fun _=>rfl;have L1:Hid (∀ p:ByteArray,(fF s p).size≤4200000000):=Lib.hid fun p=>Nat.le_trans (jUg s p) hs;have L2:Hid ((uA s).size≤4200000000):=Lib.hid (Nat.le_trans (mZ s) hs);cases h1:zW s ⟨#[48,111]⟩
 ·cases h2:zW s ⟨#[48,120]⟩
  ·go_enter Tryz.func162,Tryz.ntmps162;go_wp2_with (first
    | (go_at_call 191; refine (Tryz.qCutPrefix s _ _).mono ?_; rintro e w' ⟨rfl,rfl⟩; rw [P2.out,P3.out]; first | rw [h1] | rw [h2])
    | (go_at_call 193; refine (sM s _ hs).mono ?_; rintro e w' ⟨rfl,rfl⟩)
    | (go_at_call 192; refine (mB (uA s) dec _ L2.out (by decide) (by decide)).mono ?_; rintro e w1 ⟨rfl,hb1⟩))
   go_ret;exact ⟨jC (by simp [gR,h1,h2]),hb1⟩
  ·go_enter Tryz.func162,Tryz.ntmps162;go_wp2_with (first
    | (go_at_call 191; refine (Tryz.qCutPrefix s _ _).mono ?_; rintro e w' ⟨rfl,rfl⟩; rw [P2.out,P3.out]; first | rw [h1] | rw [h2])
    | (go_at_call 192; refine (mB (fF s ⟨#[48,120]⟩) jYh _ (L1.out _) (by decide) (by decide)).mono ?_; rintro e w1 ⟨rfl,hb1⟩))
   go_ret;exact ⟨jC (by simp [gR,h1,h2]),hb1⟩
 ·go_enter Tryz.func162,Tryz.ntmps162;go_wp2_with (first
   | (go_at_call 191; refine (Tryz.qCutPrefix s _ _).mono ?_; rintro e w' ⟨rfl,rfl⟩; rw [P2.out,P3.out,h1])
   | (go_at_call 192; refine (mB (fF s ⟨#[48,111]⟩) oct _ (L1.out _) (by decide) (by decide)).mono ?_; rintro e w1 ⟨rfl,hb1⟩))
  go_ret;exact ⟨jC (by simp [gR,h1]),hb1⟩
def yM (s:ByteArray):ByteArray:=jQa s dec
def jGn (r:ByteArray):Bool:=if r.toList.isEmpty=true then true else if bt r 0≠101∧bt r 0≠69 then false else gS (uA (r.extract 1 r.size)) dec
def jKd (u:ByteArray):Bool:=
 if zW (yM u) ⟨#[46]⟩=true then (if u.size - (yM u).size+((fF (yM u) ⟨#[46]⟩).size - (yM (fF (yM u) ⟨#[46]⟩)).size)=0 then false else jGn (yM (fF (yM u) ⟨#[46]⟩)))
 else if u.size - (yM u).size=0 then false else jGn (yM u)
def sS (u:ByteArray):Bool:=u.toList==[46,105,110,102]||u.toList==[46,73,110,102]||u.toList==[46,73,78,70]
def fG (s:ByteArray):Bool:=sS (uA s)||jKd (uA s)
set_option maxHeartbeats 1000000 in
theorem jBf (s:ByteArray) (w:World) (hs:s.size≤4200000000) :
  Calls Tryz.prog 194 #[.string s] w fun e w'=>e = .returned (.tuple #[.string (yM s),.int .i64 ((s.size - (yM s).size:Nat):Int)])∧Below w.heap.size w w':=by
 have HT:Hid (yM s=⟨(Lib.trimLeftS s.data.toList dec.data.toList).toArray⟩):=Lib.hid rfl;have hl:(yM s).size≤s.size:=jFu s dec;have HS:Hid (((s.size - (yM s).size:Nat):Int)=(s.size:Int) - (yM s).size):=Lib.hid (by omega)
 go_enter Tryz.func194,Tryz.ntmps194;go_wp2_with (go_at_call 216; refine (Tryz.qTrimLeft s dec _ (by decide) (by decide)).mono ?_; rintro e w1 ⟨rfl,hb1⟩; rw [←HT.out])
 go_ret2;exact ⟨by rw [HS.out]; rfl,hb1⟩
theorem jJn (w:World):Hid (∀ w1 w2 w3:World,Below w.heap.size w w1→Below w1.heap.size w1 w2→Below w2.heap.size w2 w3→Below w.heap.size w w3):=Lib.hid fun _ _ _ a b c=>(a.trans (b.mono a.size)).trans (c.mono (Nat.le_trans a.size b.size))
theorem qBt (r:ByteArray):Hid (jGn r=if r.toList.isEmpty=true then true else if bt r 0≠101∧bt r 0≠69 then false else gS (uA (r.extract 1 r.size)) dec):=Lib.hid rfl
set_option maxHeartbeats 1000000 in
set_option maxRecDepth 100000 in
theorem jYc (s:ByteArray) (w:World) (hs:s.size≤4200000000) :
  Calls Tryz.prog 163 #[.string s] w fun e w'=>e = .returned (.bool (fG s))∧Below w.heap.size w w':=by
 obtain ⟨u,hu⟩:∃ u,u=uA s:=⟨_,rfl⟩;have HU:Hid (uA s=u):=Lib.hid hu.symm;have hz:u.size≤4200000000:=by rw [hu]; exact Nat.le_trans (mZ s) hs
 have HF:Hid (fG s=(sS u||jKd u)):=Lib.hid (by rw [fG,←hu])
 clear hu;cases hi:sS u
 ·have i1:(u.toList==[46,105,110,102])=false:=by simp [sS] at hi ⊢; exact hi.1.1
  have i2:(u.toList==[46,73,110,102])=false:=by simp [sS] at hi ⊢; exact hi.1.2
  have i3:(u.toList==[46,73,78,70])=false:=by simp [sS] at hi ⊢; exact hi.2
  obtain ⟨d,hd⟩:∃ d,d=yM u:=⟨_,rfl⟩;have HD:Hid (yM u=d):=Lib.hid hd.symm;have hdz:d.size≤u.size:=by rw [hd]; exact jFu u dec
  have P2:Hid (∀ p:ByteArray,Lib.hasPrefix d.data.toList p.data.toList=zW d p):=Lib.hid fun _=>rfl;have P3:Hid (∀ p:ByteArray,(⟨(Lib.trimPrefix d.data.toList p.data.toList).toArray⟩:ByteArray)=fF d p):=Lib.hid fun _=>rfl;clear hd;cases hp:zW d ⟨#[46]⟩
  ·have HE:Hid (fG s=if u.size - d.size=0 then false else jGn d):=Lib.hid (by rw [HF.out,hi,jKd,HD.out,if_neg (by simp [hp])]; rfl)
   have HE2:=qBt d;cases h0:d.toList.isEmpty
   ·have hd0:=oO h0;have HB:Hid (bt d 0=(d[0].toNat:Int)):=Lib.hid (xU d 0 hd0);go_enter Tryz.func163,Tryz.ntmps163;go_wp2_with (first
       | (go_at_call 193; refine (sM _ _ (by first | exact hs | (simp; omega))).mono ?_; rintro e w' ⟨rfl,rfl⟩; try rw [HU.out])
       | (go_at_call 194; refine (jBf _ _ (by first | exact hz | exact hcz)).mono ?_; first | (rintro e w1 ⟨rfl,hb1⟩; rw [HD.out]) | (rintro e w2 ⟨rfl,hb2⟩; rw [HD2.out]))
       | (go_at_call 191; refine (Tryz.qCutPrefix _ _ _).mono ?_; rintro e w' ⟨rfl,rfl⟩; rw [P2.out,P3.out,hp])
       | (go_at_call 192; refine (mB _ _ _ (by refine Nat.le_trans (mZ _) ?_; simp; omega) (by decide) (by decide)).mono ?_; rintro e w3 ⟨rfl,hb3⟩))
    all_goals go_ret
    all_goals refine ⟨jC ?_,by first | exact (jJn w).out _ _ _ hb1 hb2 hb3 | exact hb1.trans (hb3.mono hb1.size) | exact hb1.trans (hb2.mono hb1.size) | exact hb1⟩
    all_goals rw [HE.out]
    all_goals split
    all_goals first | rfl | (exfalso; simp_all; done) | (exfalso; simp_all; omega) | (rw [HE2.out,if_pos h0]; done) | (rw [HE2.out,if_neg (by simp [h0]),HB.out]; simp_all [dec]; done)
   ·go_enter Tryz.func163,Tryz.ntmps163;go_wp2_with (first
       | (go_at_call 193; refine (sM _ _ (by first | exact hs | (simp; omega))).mono ?_; rintro e w' ⟨rfl,rfl⟩; try rw [HU.out])
       | (go_at_call 194; refine (jBf _ _ (by first | exact hz | exact hcz)).mono ?_; first | (rintro e w1 ⟨rfl,hb1⟩; rw [HD.out]) | (rintro e w2 ⟨rfl,hb2⟩; rw [HD2.out]))
       | (go_at_call 191; refine (Tryz.qCutPrefix _ _ _).mono ?_; rintro e w' ⟨rfl,rfl⟩; rw [P2.out,P3.out,hp])
       | (go_at_call 192; refine (mB _ _ _ (by refine Nat.le_trans (mZ _) ?_; simp; omega) (by decide) (by decide)).mono ?_; rintro e w3 ⟨rfl,hb3⟩))
    all_goals go_ret
    all_goals refine ⟨jC ?_,by first | exact (jJn w).out _ _ _ hb1 hb2 hb3 | exact hb1.trans (hb3.mono hb1.size) | exact hb1.trans (hb2.mono hb1.size) | exact hb1⟩
    all_goals rw [HE.out]
    all_goals split
    all_goals first | rfl | (exfalso; simp_all; done) | (exfalso; simp_all; omega) | (rw [HE2.out,if_pos h0]; done) | (rw [HE2.out,if_neg (by simp [h0]),HB.out]; simp_all [dec]; done)
  ·obtain ⟨c,hc⟩:∃ c,c=fF d ⟨#[46]⟩:=⟨_,rfl⟩;obtain ⟨q,hq⟩:∃ q,q=yM c:=⟨_,rfl⟩;have HC:Hid (fF d ⟨#[46]⟩=c):=Lib.hid hc.symm;have hcz:c.size≤4200000000:=by rw [hc]; exact Nat.le_trans (jUg d _) (by omega)
   have HD2:Hid (yM c=q):=Lib.hid hq.symm;have hqz:q.size≤c.size:=by rw [hq]; exact jFu c dec
   have HE:Hid (fG s=if u.size - d.size+(c.size - q.size)=0 then false else jGn q):=Lib.hid (by rw [HF.out,hi,jKd,HD.out,if_pos hp,←hc,←hq]; rfl)
   clear hc hq;have HE2:=qBt q;cases h0:q.toList.isEmpty
   ·have hd0:=oO h0;have HB:Hid (bt q 0=(q[0].toNat:Int)):=Lib.hid (xU q 0 hd0);go_enter Tryz.func163,Tryz.ntmps163;go_wp2_with (first
       | (go_at_call 193; refine (sM _ _ (by first | exact hs | (simp; omega))).mono ?_; rintro e w' ⟨rfl,rfl⟩; try rw [HU.out])
       | (go_at_call 194; refine (jBf _ _ (by first | exact hz | exact hcz)).mono ?_; first | (rintro e w1 ⟨rfl,hb1⟩; rw [HD.out]) | (rintro e w2 ⟨rfl,hb2⟩; rw [HD2.out]))
       | (go_at_call 191; refine (Tryz.qCutPrefix _ _ _).mono ?_; rintro e w' ⟨rfl,rfl⟩; rw [P2.out,P3.out,hp,HC.out])
       | (go_at_call 192; refine (mB _ _ _ (by refine Nat.le_trans (mZ _) ?_; simp; omega) (by decide) (by decide)).mono ?_; rintro e w3 ⟨rfl,hb3⟩))
    all_goals go_ret
    all_goals refine ⟨jC ?_,by first | exact (jJn w).out _ _ _ hb1 hb2 hb3 | exact hb1.trans (hb3.mono hb1.size) | exact hb1.trans (hb2.mono hb1.size) | exact hb1⟩
    all_goals rw [HE.out]
    all_goals split
    all_goals first | rfl | (exfalso; simp_all; done) | (exfalso; simp_all; omega) | (rw [HE2.out,if_pos h0]; done) | (rw [HE2.out,if_neg (by simp [h0]),HB.out]; simp_all [dec]; done)
   ·go_enter Tryz.func163,Tryz.ntmps163;go_wp2_with (first
       | (go_at_call 193; refine (sM _ _ (by first | exact hs | (simp; omega))).mono ?_; rintro e w' ⟨rfl,rfl⟩; try rw [HU.out])
       | (go_at_call 194; refine (jBf _ _ (by first | exact hz | exact hcz)).mono ?_; first | (rintro e w1 ⟨rfl,hb1⟩; rw [HD.out]) | (rintro e w2 ⟨rfl,hb2⟩; rw [HD2.out]))
       | (go_at_call 191; refine (Tryz.qCutPrefix _ _ _).mono ?_; rintro e w' ⟨rfl,rfl⟩; rw [P2.out,P3.out,hp,HC.out])
       | (go_at_call 192; refine (mB _ _ _ (by refine Nat.le_trans (mZ _) ?_; simp; omega) (by decide) (by decide)).mono ?_; rintro e w3 ⟨rfl,hb3⟩))
    all_goals go_ret
    all_goals refine ⟨jC ?_,by first | exact (jJn w).out _ _ _ hb1 hb2 hb3 | exact hb1.trans (hb3.mono hb1.size) | exact hb1.trans (hb2.mono hb1.size) | exact hb1⟩
    all_goals rw [HE.out]
    all_goals split
    all_goals first | rfl | (exfalso; simp_all; done) | (exfalso; simp_all; omega) | (rw [HE2.out,if_pos h0]; done) | (rw [HE2.out,if_neg (by simp [h0]),HB.out]; simp_all [dec]; done)
 ·have HE:Hid (fG s=true):=Lib.hid (by rw [HF.out,hi]; rfl)
  have hi2:((u.toList==[46,105,110,102])||(u.toList==[46,73,110,102])||(u.toList==[46,73,78,70]))=true:=hi;go_enter Tryz.func163,Tryz.ntmps163;go_wp2_with (first
   | (go_at_call 193; refine (sM _ _ (by first | exact hs | (simp; omega))).mono ?_; rintro e w' ⟨rfl,rfl⟩; try rw [HU.out]))
  all_goals first | (go_ret; exact ⟨jC HE.out.symm,Below.refl _ _⟩) | (exfalso; simp_all; done)
end
noncomputable section
set_option linter.all false
open Go.RowKit
def uY:List ByteArray:=[⟨#[]⟩,⟨#[110,117,108,108]⟩,⟨#[78,117,108,108]⟩,⟨#[78,85,76,76]⟩,⟨#[126]⟩]
def uG:List ByteArray:=[⟨#[116,114,117,101]⟩,⟨#[84,114,117,101]⟩,⟨#[84,82,85,69]⟩,⟨#[102,97,108,115,101]⟩,⟨#[70,97,108,115,101]⟩,⟨#[70,65,76,83,69]⟩]
def bM:List ByteArray:=[⟨#[46,110,97,110]⟩,⟨#[46,78,97,78]⟩,⟨#[46,78,65,78]⟩]
def yZ (s:ByteArray):Nat→Bool
 | 0=>Lib.containsS uY s
 | 1=>Lib.containsS uG s
 | 2=>gR s
 | 3=>fG s
 | _=>Lib.containsS bM s
def wL:Nat→ByteArray
 | 0=>⟨#[110,117,108,108]⟩
 | 1=>⟨#[98,111,111,108]⟩
 | 2=>⟨#[105,110,116]⟩
 | _=>⟨#[102,108,111,97,116]⟩
def uB (s:ByteArray):Nat→Nat→ByteArray
 | 0,_=>⟨#[115,116,114]⟩
 | f+1,k=>if yZ s k=true then wL k else uB s f (k+1)
def yC:ByteArray:=⟨#[116,97,103,58,121,97,109,108,46,111,114,103,44,50,48,48,50,58]⟩
def yX (s:ByteArray):ByteArray:=yC++uB s 5 0
set_option maxHeartbeats 1000000 in
theorem gH (s:ByteArray) (w:World) (hs:s.size≤140737488355328) :
  Calls Tryz.prog 86 #[.string s] w fun e w'=>e = .returned (.string (yC++s))∧w=w':=by
 go_enter Tryz.func86,Tryz.ntmps86;go_wp2;go_ret;exact ⟨rfl,rfl⟩
theorem qHv (w:World) (a b c d:Obj):((((w.alloc a).alloc b).alloc c).alloc d).heap[w.heap.size]?=some a∧((((w.alloc a).alloc b).alloc c).alloc d).heap[w.heap.size+1]?=some b∧((((w.alloc a).alloc b).alloc c).alloc d).heap[w.heap.size+1+1]?=some c∧((((w.alloc a).alloc b).alloc c).alloc d).heap[w.heap.size+1+1+1]?=some d:=by
 have nw:∀ (w:World) (o:Obj),(w.alloc o).heap[w.heap.size]?=some o:=fun w o=>by show (w.heap.push o)[w.heap.size]?=some o; simp
 have sz:∀ (w:World) (o:Obj),(w.alloc o).heap.size=w.heap.size+1:=fun w o=>by show (w.heap.push o).size=_; simp
 refine ⟨?_,?_,?_,?_⟩
 ·rw [Lib.alloc_old _ _ _ (by rw [sz,sz,sz]; omega),Lib.alloc_old _ _ _ (by rw [sz,sz]; omega),Lib.alloc_old _ _ _ (by rw [sz]; omega)]; exact nw _ _
 ·rw [Lib.alloc_old _ _ _ (by rw [sz,sz,sz]; omega),Lib.alloc_old _ _ _ (by rw [sz,sz]; omega),←sz w a]; exact nw _ _
 ·rw [Lib.alloc_old _ _ _ (by rw [sz,sz,sz]; omega),←sz w a,←sz _ b]; exact nw _ _
 ·rw [←sz w a,←sz _ b,←sz _ c]; exact nw _ _
theorem as1 (v:Value) (w:World):(Instr.typeAssert (.iface 151 v) 133 151 true).run Tryz.prog w = .ok (.tuple #[v,.bool true]) w:=by kernel_rfl
theorem as2 (v:Value) (w:World):(Instr.typeAssert (.iface 153 v) 133 153 true).run Tryz.prog w = .ok (.tuple #[v,.bool true]) w:=by kernel_rfl
theorem me1 (v : Value) (w : World) : (method 354 151 v "bosket/core.word").run Tryz.prog w = .ok (265, v) w := by kernel_rfl
theorem me2 (v : Value) (w : World) : (method 354 153 v "bosket/core.word").run Tryz.prog w = .ok (266, v) w := by kernel_rfl
set_option maxHeartbeats 1000000 in
theorem qEy (n:ByteArray) (x:Value) (w:World):Calls Tryz.prog 265 #[.agg #[.string n,x]] w fun e w'=>e = .returned (.string n)∧Below w.heap.size w w':=by
 go_enter Tryz.func265,Tryz.ntmps265;go_wp2;go_ret;exact ⟨rfl,(Below.refl _ _).alloc (Nat.le_refl _) _⟩
set_option maxHeartbeats 1000000 in
theorem qKn (n:ByteArray) (x:Value) (w:World):Calls Tryz.prog 266 #[.agg #[.string n,x]] w fun e w'=>e = .returned (.string n)∧Below w.heap.size w w':=by
 go_enter Tryz.func266,Tryz.ntmps266;go_wp2;go_ret;exact ⟨rfl,(Below.refl _ _).alloc (Nat.le_refl _) _⟩
theorem as3 (v:Value) (w:World):(Instr.typeAssert (.iface 153 v) 133 151 true).run Tryz.prog w = .ok (.tuple #[.agg #[.string ⟨#[]⟩,.slice none 0 0],.bool false]) w:=by kernel_rfl
set_option maxHeartbeats 1000000 in
set_option maxRecDepth 100000 in
theorem qJk (s:ByteArray) (w:World) (hs:s.size≤4200000000) :
  Calls Tryz.prog 85 #[.string s] w fun e w'=>e = .returned (.string (yX s))∧Below w.heap.size w w':=by
 have a1:=as1;have a2:=as2;have a3:=as3;have m1:=me1;have m2:=me2;go_enter Tryz.func85,Tryz.ntmps85;go_wp2_with go_in;go_name_world W0 hW0;have hz0:W0.heap.size=w.heap.size+1+1+1+1:=by rw [←hW0]; simp
 have HB:Hid (Below w.heap.size w W0):=Lib.hid (by rw [←hW0]; exact ((((Below.refl _ _).alloc (Nat.le_refl _) _).alloc (by simp) _).alloc (by simp; omega) _).alloc (by simp; omega) _)
 have c0:Hid (∀ j,j<uY.length→W0.cell? ⟨w.heap.size,0+j,none⟩=some (.string (uY.getD j ByteArray.empty))):=Lib.hid (fun j hj=>by
  have hh:W0.heap[w.heap.size]?=some (.cells (uY.map Value.string).toArray 9 (0,0)):=by rw [←hW0]; exact (qHv _ _ _ _ _).1
  rw [Nat.zero_add,Lib.cell_of_heap hh j];have hj':j<5:=hj;have hc:j=0∨j=1∨j=2∨j=3∨j=4:=by omega
  rcases hc with rfl | rfl | rfl | rfl | rfl<;>rfl)
 have c1:Hid (∀ j,j<uG.length→W0.cell? ⟨w.heap.size+1,0+j,none⟩=some (.string (uG.getD j ByteArray.empty))):=Lib.hid (fun j hj=>by
  have hh:W0.heap[w.heap.size+1]?=some (.cells (uG.map Value.string).toArray 9 (0,0)):=by rw [←hW0]; exact (qHv _ _ _ _ _).2.1
  rw [Nat.zero_add,Lib.cell_of_heap hh j];have hj':j<6:=hj;have hc:j=0∨j=1∨j=2∨j=3∨j=4∨j=5:=by omega
  rcases hc with rfl | rfl | rfl | rfl | rfl | rfl<;>rfl)
 have c4:Hid (∀ j,j<bM.length→W0.cell? ⟨w.heap.size+1+1,0+j,none⟩=some (.string (bM.getD j ByteArray.empty))):=Lib.hid (fun j hj=>by
  have hh:W0.heap[w.heap.size+1+1]?=some (.cells (bM.map Value.string).toArray 9 (0,0)):=by rw [←hW0]; exact (qHv _ _ _ _ _).2.2.1
  rw [Nat.zero_add,Lib.cell_of_heap hh j];have hj':j<3:=hj;have hc:j=0∨j=1∨j=2:=by omega
  rcases hc with rfl | rfl | rfl<;>rfl)
 have kk:Hid (W0.heap[w.heap.size+1+1+1]?=some (.cells #[.iface 151 (.agg #[.string (wL 0),.slice (some ⟨w.heap.size,0,none⟩) 5 5]),.iface 151 (.agg #[.string (wL 1),.slice (some ⟨w.heap.size+1,0,none⟩) 6 6]),.iface 153 (.agg #[.string (wL 2),.func (.func 162) #[] #[]]),.iface 153 (.agg #[.string (wL 3),.func (.func 163) #[] #[]]),.iface 151 (.agg #[.string (wL 4),.slice (some ⟨w.heap.size+1+1,0,none⟩) 3 3])] 133 (0,0))):=Lib.hid (by rw [←hW0]; exact (qHv _ _ _ _ _).2.2.2)
 have k0:Hid (W0.cell? ⟨w.heap.size+1+1+1,0,none⟩=_):=Lib.hid (Lib.cell_of_heap kk.out 0);have k1:Hid (W0.cell? ⟨w.heap.size+1+1+1,1,none⟩=_):=Lib.hid (Lib.cell_of_heap kk.out 1);have k2:Hid (W0.cell? ⟨w.heap.size+1+1+1,2,none⟩=_):=Lib.hid (Lib.cell_of_heap kk.out 2);have k3:Hid (W0.cell? ⟨w.heap.size+1+1+1,3,none⟩=_):=Lib.hid (Lib.cell_of_heap kk.out 3);have k4:Hid (W0.cell? ⟨w.heap.size+1+1+1,4,none⟩=_):=Lib.hid (Lib.cell_of_heap kk.out 4);clear hW0;go_loopw [7] (fun v wr=>∃ k:Nat,k≤5∧v = .int .i64 k∧Below W0.heap.size W0 wr∧Hid (uB s 5 0=uB s (5 - k) k)) (fun v _=>5 - (intOf v).toNat)
 case atStart=>exact ⟨0,by omega,rfl,Below.refl _ _,rfl⟩
 case round=>
  obtain ⟨k,hk,rfl,hb,HS⟩:=hrel;have hfin:∀ W',Below wr.heap.size wr W'→Below w.heap.size w W':=fun W' h=>HB.out.trans ((hb.trans (h.mono hb.size)).mono HB.out.size);have hcon:∀ W',Below wr.heap.size wr W'→Below W0.heap.size W0 W':=fun W' h=>hb.trans (h.mono hb.size);have hk6:k=0∨k=1∨k=2∨k=3∨k=4∨k=5:=by omega
  rcases hk6 with rfl | rfl | rfl | rfl | rfl | rfl
  ·have kc:wr.cell? ⟨w.heap.size+1+1+1,0,none⟩=some (.iface 151 (.agg #[.string (wL 0),.slice (some ⟨w.heap.size,0,none⟩) 5 5])):=(hb.cell (p:=⟨w.heap.size+1+1+1,0,none⟩) (by dsimp only; omega)).trans k0.out
   have hL:Hid (Lib.containsS ((uY:List ByteArray).take 5) s=yZ s 0):=Lib.hid rfl;have HT:Hid (uB s 5 0=if yZ s 0=true then wL 0 else uB s 4 1):=Lib.hid HS.out
   clear HS;cases ht:yZ s 0
   all_goals go_wp2_with (first | (go_at_call 164; refine (Tryz.qContains (w.heap.size) 0 5 5 uY s _ (by decide) (by decide) (fun j hj=>((hb.alloc hb.size _).cell (p:=⟨w.heap.size,0+j,none⟩) (by dsimp only; omega)).trans (c0.out j hj))).mono ?_; rintro e w' ⟨rfl,rfl⟩; rw [hL.out,ht]) | (go_at_call 86; refine (gH _ _ (by decide)).mono ?_; rintro e w' ⟨rfl,rfl⟩) | (go_at_call 265; refine (qEy _ _ _).mono ?_; rintro e w2 ⟨rfl,hb2⟩) | (go_at_call 123; go_in))
   ·exact ⟨⟨1,by omega,rfl,hcon _ ((Below.refl _ _).alloc (Nat.le_refl _) _),Lib.hid (by rw [HT.out,if_neg (by simp [ht])])⟩,by decide⟩
   ·go_ret;exact ⟨jL (by rw [yX,HT.out,if_pos ht]),hfin _ (((Below.refl _ _).alloc (Nat.le_refl _) _).trans (hb2.mono (by simp)))⟩
  ·have kc:wr.cell? ⟨w.heap.size+1+1+1,1,none⟩=some (.iface 151 (.agg #[.string (wL 1),.slice (some ⟨w.heap.size+1,0,none⟩) 6 6])):=(hb.cell (p:=⟨w.heap.size+1+1+1,1,none⟩) (by dsimp only; omega)).trans k1.out
   have hL:Hid (Lib.containsS ((uG:List ByteArray).take 6) s=yZ s 1):=Lib.hid rfl;have HT:Hid (uB s 5 0=if yZ s 1=true then wL 1 else uB s 3 2):=Lib.hid HS.out
   clear HS;cases ht:yZ s 1
   all_goals go_wp2_with (first | (go_at_call 164; refine (Tryz.qContains (w.heap.size+1) 0 6 6 uG s _ (by decide) (by decide) (fun j hj=>((hb.alloc hb.size _).cell (p:=⟨w.heap.size+1,0+j,none⟩) (by dsimp only; omega)).trans (c1.out j hj))).mono ?_; rintro e w' ⟨rfl,rfl⟩; rw [hL.out,ht]) | (go_at_call 86; refine (gH _ _ (by decide)).mono ?_; rintro e w' ⟨rfl,rfl⟩) | (go_at_call 265; refine (qEy _ _ _).mono ?_; rintro e w2 ⟨rfl,hb2⟩) | (go_at_call 123; go_in))
   ·exact ⟨⟨2,by omega,rfl,hcon _ ((Below.refl _ _).alloc (Nat.le_refl _) _),Lib.hid (by rw [HT.out,if_neg (by simp [ht])])⟩,by decide⟩
   ·go_ret;exact ⟨jL (by rw [yX,HT.out,if_pos ht]),hfin _ (((Below.refl _ _).alloc (Nat.le_refl _) _).trans (hb2.mono (by simp)))⟩
  ·have kc:wr.cell? ⟨w.heap.size+1+1+1,2,none⟩=some (.iface 153 (.agg #[.string (wL 2),.func (.func 162) #[] #[]])):=(hb.cell (p:=⟨w.heap.size+1+1+1,2,none⟩) (by dsimp only; omega)).trans k2.out
   have hL:Hid (gR s=yZ s 2):=Lib.hid rfl;have HT:Hid (uB s 5 0=if yZ s 2=true then wL 2 else uB s 2 3):=Lib.hid HS.out
   clear HS;cases ht:yZ s 2
   all_goals go_wp2_with (first | (go_at_call 162; refine (jZq s _ hs).mono ?_; rintro e w3 ⟨rfl,hb3⟩; rw [hL.out,ht]) | (go_at_call 86; refine (gH _ _ (by decide)).mono ?_; rintro e w' ⟨rfl,rfl⟩) | (go_at_call 266; refine (qKn _ _ _).mono ?_; rintro e w2 ⟨rfl,hb2⟩) | (go_at_call 123; go_in))
   ·exact ⟨⟨3,by omega,rfl,hcon _ ((((Below.refl _ _).alloc (Nat.le_refl _) _).alloc (by simp) _).trans (hb3.mono (by simp; omega))),Lib.hid (by rw [HT.out,if_neg (by simp [ht])])⟩,by decide⟩
   ·go_ret;exact ⟨jL (by rw [yX,HT.out,if_pos ht]),hfin _ (((((Below.refl _ _).alloc (Nat.le_refl _) _).alloc (by simp) _).trans (hb3.mono (by simp; omega))).trans (hb2.mono (by have:=hb3.size; simp at this; omega)))⟩
  ·have kc:wr.cell? ⟨w.heap.size+1+1+1,3,none⟩=some (.iface 153 (.agg #[.string (wL 3),.func (.func 163) #[] #[]])):=(hb.cell (p:=⟨w.heap.size+1+1+1,3,none⟩) (by dsimp only; omega)).trans k3.out
   have hL:Hid (fG s=yZ s 3):=Lib.hid rfl;have HT:Hid (uB s 5 0=if yZ s 3=true then wL 3 else uB s 1 4):=Lib.hid HS.out
   clear HS;cases ht:yZ s 3
   all_goals go_wp2_with (first | (go_at_call 163; refine (jYc s _ hs).mono ?_; rintro e w3 ⟨rfl,hb3⟩; rw [hL.out,ht]) | (go_at_call 86; refine (gH _ _ (by decide)).mono ?_; rintro e w' ⟨rfl,rfl⟩) | (go_at_call 266; refine (qKn _ _ _).mono ?_; rintro e w2 ⟨rfl,hb2⟩) | (go_at_call 123; go_in))
   ·exact ⟨⟨4,by omega,rfl,hcon _ ((((Below.refl _ _).alloc (Nat.le_refl _) _).alloc (by simp) _).trans (hb3.mono (by simp; omega))),Lib.hid (by rw [HT.out,if_neg (by simp [ht])])⟩,by decide⟩
   ·go_ret;exact ⟨jL (by rw [yX,HT.out,if_pos ht]),hfin _ (((((Below.refl _ _).alloc (Nat.le_refl _) _).alloc (by simp) _).trans (hb3.mono (by simp; omega))).trans (hb2.mono (by have:=hb3.size; simp at this; omega)))⟩
  ·have kc:wr.cell? ⟨w.heap.size+1+1+1,4,none⟩=some (.iface 151 (.agg #[.string (wL 4),.slice (some ⟨w.heap.size+1+1,0,none⟩) 3 3])):=(hb.cell (p:=⟨w.heap.size+1+1+1,4,none⟩) (by dsimp only; omega)).trans k4.out
   have hL:Hid (Lib.containsS ((bM:List ByteArray).take 3) s=yZ s 4):=Lib.hid rfl;have HT:Hid (uB s 5 0=if yZ s 4=true then wL 4 else uB s 0 5):=Lib.hid HS.out
   clear HS;cases ht:yZ s 4
   all_goals go_wp2_with (first | (go_at_call 164; refine (Tryz.qContains (w.heap.size+1+1) 0 3 3 bM s _ (by decide) (by decide) (fun j hj=>((hb.alloc hb.size _).cell (p:=⟨w.heap.size+1+1,0+j,none⟩) (by dsimp only; omega)).trans (c4.out j hj))).mono ?_; rintro e w' ⟨rfl,rfl⟩; rw [hL.out,ht]) | (go_at_call 86; refine (gH _ _ (by decide)).mono ?_; rintro e w' ⟨rfl,rfl⟩) | (go_at_call 265; refine (qEy _ _ _).mono ?_; rintro e w2 ⟨rfl,hb2⟩) | (go_at_call 123; go_in))
   ·exact ⟨⟨5,by omega,rfl,hcon _ ((Below.refl _ _).alloc (Nat.le_refl _) _),Lib.hid (by rw [HT.out,if_neg (by simp [ht])])⟩,by decide⟩
   ·go_ret;exact ⟨jL (by rw [yX,HT.out,if_pos ht]),hfin _ (((Below.refl _ _).alloc (Nat.le_refl _) _).trans (hb2.mono (by simp)))⟩
  ·have HT:Hid (uB s 5 0=⟨#[115,116,114]⟩):=Lib.hid HS.out;clear HS;go_wp2_with (go_at_call 86; refine (gH _ _ (by decide)).mono ?_; rintro e w' ⟨rfl,rfl⟩)
   go_ret;exact ⟨jL (by rw [yX,HT.out]),hfin _ (Below.refl _ _)⟩
end
noncomputable section
set_option linter.all false
open Go.RowKit
def nl (l:List UInt8):Prop:=∀ b,b∈l→b≠10
theorem fH {a b:List UInt8} (ha:nl a) (hb:nl b):nl (a++b):=fun x hx=>by
 rcases List.mem_append.1 hx with h | h
 ·exact ha x h
 ·exact hb x h
theorem jRx {a b:List UInt8} (h:∀ x,x∈a→x∈b) (hb:nl b):nl a:=fun x hx=>hb x (h x hx)
theorem vQ (a b:ByteArray):(a++b).data.toList=a.data.toList++b.data.toList:=by simp
theorem jRv {s:ByteArray} {i j:Nat} (h:nl s.data.toList):nl (s.extract i j).data.toList:=by
 refine jRx (fun x hx=>?_) h;simp only [ByteArray.data_extract,Array.toList_extract] at hx;exact List.mem_of_mem_drop (List.mem_of_mem_take hx)
theorem qDm {s:ByteArray} {fl:Bool} (h:vA s fl=true):nl s.data.toList:=by
 unfold vA at h;simp only [Bool.and_eq_true,Bool.not_eq_true'] at h;have h10:=h.1.1.1.2;unfold eS at h10;have h1:=of_decide_eq_false h10;have h2:=Lib.indexByte_ge s.data.toList 10;have h3:=Lib.indexByte_none (l:=s.data.toList) (c:=10) (by omega)
 intro b hb e;subst e;obtain ⟨k,hk,e⟩:=List.mem_iff_getElem.1 hb;exact h3 k (by rw [List.getElem?_eq_getElem hk,e])
theorem jKi (d:Nat) (h:d<16):mL d≠10:=by
 have:∀ d:Fin 16,mL d.1≠10:=by decide
 exact this ⟨d,h⟩
theorem jUt:∀ (f v:Nat) (a:List UInt8),v<16^(f+1)→nl a→nl (jDp f v a)
 | 0,v,a,hv,h=>by
  unfold jDp;intro b hb;rcases List.mem_cons.1 hb with rfl | hb
  ·exact jKi _ (by simpa using hv)
  ·exact h b hb
 | f+1,v,a,hv,h=>by
  unfold jDp;split
  ·refine jUt f (v / 16) _ ?_ ?_
   ·rw [Nat.pow_succ] at hv; omega
   ·intro b hb;rcases List.mem_cons.1 hb with rfl | hb
    ·exact jKi _ (Nat.mod_lt _ (by decide))
    ·exact h b hb
  ·intro b hb;rcases List.mem_cons.1 hb with rfl | hb
   ·exact jKi _ (by omega)
   ·exact h b hb
theorem jRw:nl []:=fun b hb=>by cases hb
theorem jUu {r:Nat} (h:r<65536):nl (jNt r).data.toList:=by
 have:nl (eT r):=jUt 16 r [] (by omega) jRw
 simpa [jNt] using this
theorem kQ {l:List UInt8} (h:(l.all fun b=>b != 10)=true):nl l:=fun b hb e=>by
 have:=List.all_eq_true.1 h b hb;simp [e] at this
theorem qAt {r:Nat} (h:r<65536):nl (mI r).data.toList:=by
 unfold mI;split
 ·rw [vQ,vQ];exact fH (fH (kQ (by decide)) (jRv (kQ (by decide)))) (jUu h)
 ·rw [vQ,vQ];exact fH (fH (kQ (by decide)) (jRv (kQ (by decide)))) (jUu h)
theorem jYm (r:Nat):nl (uD r).data.toList:=by
 unfold uD
 repeat' split
 all_goals first
  | exact kQ (by decide)
  | (rw [vQ]; exact fH (kQ (by decide)) (jRv (kQ (by decide))))
theorem jWm {n:Nat} (h:n<256) (h1:n≠10):UInt8.ofNat n≠10:=fun e=>h1 (by
 have:=congrArg UInt8.toNat e;simpa [Nat.mod_eq_of_lt h] using this)
theorem qLc {r:Nat} (hv:Lib.validRune (r:Int)=true) (h:r≠10):nl (Utf8.encode (r:Int)).data.toList:=by
 simp only [Lib.validRune,decide_eq_true_eq] at hv;have hm:r≤1114111:=by omega
 unfold Utf8.encode;simp only;have hc:∀ c:Nat,(c=r∨c=65533)→c≤1114111∧c≠10:=fun c hc=>by omega
 have hif:((if Utf8.valid (r:Int) then (r:Int).toNat else Utf8.runeError)=r∨(if Utf8.valid (r:Int) then (r:Int).toNat else Utf8.runeError)=65533):=by
  split
  ·left; simp
  ·right; rfl
 generalize (if Utf8.valid (r:Int) then (r:Int).toNat else Utf8.runeError)=c at hif
 obtain ⟨h1,h2⟩:=hc c hif
 repeat' split
 all_goals
  intro b hb;simp only [List.mem_cons,List.not_mem_nil,or_false] at hb
 ·subst hb; exact jWm (by omega) h2
 ·rcases hb with rfl | rfl<;>exact jWm (by omega) (by omega)
 ·rcases hb with rfl | rfl | rfl<;>exact jWm (by omega) (by omega)
 ·rcases hb with rfl | rfl | rfl | rfl<;>exact jWm (by omega) (by omega)
theorem qJe {r:Nat} (hv:Lib.validRune (r:Int)=true):nl (qE r).data.toList:=by
 unfold qE;split
 ·rename_i hl;have h10:r≠10:=fun e=>by
   subst e;revert hl
   decide +kernel
  split
  ·exact qLc hv h10
  ·rename_i hp;have h5:r<65536:=by
    rcases Nat.lt_or_ge r 65536 with h | h
    ·exact h
    ·exact absurd (sF hv h) hp
   exact qAt h5
 ·exact jYm r
theorem jPm (s:ByteArray):∀ (f p:Nat),nl (zR s f p)
 | 0,p=>jRw
 | f+1,p=>by
  unfold zR;split
  ·exact fH (qJe (rQ s p)) (jPm s f _)
  ·exact jRw
theorem yW {r:Nat} (hv:Lib.validRune (r:Int)=true):(qE r).data.toList.length≤10:=by
 have e:(qE r).data.toList.length=(qE r).size:=by simp
 rw [e];unfold qE;split
 ·split
  ·have:=jNb r; omega
  ·rename_i hp;have h5:r<65536:=by
    rcases Nat.lt_or_ge r 65536 with h | h
    ·exact h
    ·exact absurd (sF hv h) hp
   have:=jKj h5;have hz:(jNt r).size=(eT r).length:=by simp [jNt,ByteArray.size]
   have z1:(⟨#[92,120]⟩:ByteArray).size=2:=rfl;have z2:(⟨#[92,117]⟩:ByteArray).size=2:=rfl;have z3:(⟨#[48,48]⟩:ByteArray).size=2:=rfl;have z4:(⟨#[48,48,48,48]⟩:ByteArray).size=4:=rfl;unfold mI;split
   ·rw [ByteArray.size_append,ByteArray.size_append,ByteArray.size_extract]; omega
   ·rw [ByteArray.size_append,ByteArray.size_append,ByteArray.size_extract]; omega
 ·have z1:(⟨#[92]⟩:ByteArray).size=1:=rfl;have z2:(⟨#[97,98,116,110,118,102,114]⟩:ByteArray).size=7:=rfl;have z3:(⟨#[]⟩:ByteArray).size=0:=rfl;unfold uD
  repeat' split
  all_goals first | (show (2:Nat)≤10; decide) | (rw [ByteArray.size_append,ByteArray.size_extract]; omega) | omega
theorem jIt (s:ByteArray):∀ (f p:Nat),p≤s.size→(zR s f p).length≤10*(s.size - p)
 | 0,p,_=>by simp [zR]
 | f+1,p,h=>by
  unfold zR;split
  ·rename_i hp;have h1:=yW (rQ s p);have h2:=Lib.decode_width_pos s p hp;have h3:=kJ s p hp;have h4:=jIt s f (p+(Utf8.decode s p).2) (by omega)
   rw [List.length_append];omega
  ·simp
theorem jVx:∀ (k:Nat) {s:List UInt8},nl s→nl (Lib.replaceK [39] [39,39] k s)
 | 0,s,h=>h
 | k+1,s,h=>by
  unfold Lib.replaceK;split
  ·exact h
  ·exact fH (fH (jRx (fun x hx=>List.mem_of_mem_take hx) h) (kQ (by decide))) (jVx k (jRx (fun x hx=>List.mem_of_mem_drop hx) h))
theorem qAc (s:ByteArray):∀ (f p:Nat),s.size≤p+f→wB uX s f p=true→∀ k,p≤k→k<s.size→(s.get! k).toNat≠10
 | 0,p,h,_,k,h1,h2=>by omega
 | f+1,p,h,ha,k,h1,h2=>by
  unfold wB at ha;rw [if_pos (show p<s.size by omega)] at ha
  split at ha
  ·rename_i hc;have hw:=Lib.decode_width_pos s p (by omega)
   by_cases hk:p+(Utf8.decode s p).2≤k
   ·exact qAc s f _ (by omega) ha k hk h2
   ·intro e;have hd:=Lib.decode_at s p;have hcs:=Lib.decodeN_conts (s.size - p) (s.get! p).toNat (s.get! (p+1)).toNat (s.get! (p+2)).toNat (s.get! (p+3)).toNat;rw [←hd] at hcs;by_cases q:k=p
    ·subst q;have ha2:=Lib.decodeN_ascii (s.size - k) (s.get! k).toNat (s.get! (k+1)).toNat (s.get! (k+2)).toNat (s.get! (k+3)).toNat (by omega)
     rw [←hd] at ha2;rw [ha2,e] at hc;revert hc
     decide
    ·obtain ⟨c1,c2,c3,c4⟩:=hcs;have:k=p+1∨k=p+2∨k=p+3:=by omega
     rcases this with q | q | q
     ·subst q; have:=(c1 (by omega)).1; omega
     ·subst q; have:=(c2 (by omega)).1; omega
     ·subst q; have:=(c3 (by omega)).1; omega
  ·cases ha
theorem jIu {s:ByteArray} (h:qN s=true):nl s.data.toList:=by
 unfold qN at h;rw [Bool.and_eq_true] at h;intro b hb e;obtain ⟨k,hk,e2⟩:=List.mem_iff_getElem.1 hb;have hk':k<s.size:=by simpa using hk
 refine qAc s s.size 0 (by omega) h.1 k (Nat.zero_le _) hk' ?_
 have e3:s.get! k=b:=by
  rw [←e2];simp [ByteArray.get!,getElem!_pos,hk']
 rw [e3,e]; rfl
theorem qDq (s:ByteArray) (b:Bool):nl (xQ s b).data.toList:=by
 unfold xQ;split
 ·rename_i h;rw [vQ,vQ];refine fH (fH (kQ (by decide)) ?_) (kQ (by decide))
  show nl (Lib.replaceAll s.data.toList [39] [39,39]);unfold Lib.replaceAll Lib.replace;split
  ·exact jIu h.2
  ·exact jVx _ (jIu h.2)
 ·show nl (34::(zR s s.size 0++[34]));intro x hx;rcases List.mem_cons.1 hx with rfl | hx
  ·decide
  ·exact fH (jPm s s.size 0) (kQ (by decide)) x hx
theorem jZg (s:ByteArray) (b:Bool):(xQ s b).data.toList.length≤10*s.size+4:=by
 unfold xQ;split
 ·have h1:=jFb s;have e:(pJ s).data.toList.length=(pJ s).size:=by simp
  rw [vQ,vQ,List.length_append,List.length_append,e];show 1+(pJ s).size+1≤_;omega
 ·show (34::(zR s s.size 0++[34])).length≤_;have:=jIt s s.size 0 (Nat.zero_le _);simp only [List.length_cons,List.length_append,List.length_nil];omega
end
end Go.Proofs.YtdlhiljbhepliaaGreatDoor
