/-
core's functions that tell whether a plain text is a number: what they compute ('wholeS', 'floatS').
-/
import Derived.Test.YtngfdcnglojcaaaGreatDoorPsA
import Derived.Lib.ItoaWalk
import Derived.Laws.EntriesVeiled
import Derived.Lib.Builder
import Derived.Test.YtngfdcnglojcaaaGreatDoorPsG
import Derived.Lib.IndexLaws
import Derived.Lib.SpaceUEq
import Derived.Lib.MapLaws
section
set_option linter.all false
namespace Go.Proofs.YtngfdcnglojcaaaGreatDoor
noncomputable section
open Go.RowKit
def tC (s p:ByteArray):ByteArray:=mkS (Lib.trimPrefix s.data.toList p.data.toList)
def qGa (s c:ByteArray):ByteArray:=⟨(Lib.trimS s.data.toList c.data.toList).toArray⟩
def jTj (s c:ByteArray):ByteArray:=⟨(Lib.trimLeftS s.data.toList c.data.toList).toArray⟩
def oct:ByteArray:=⟨#[48,49,50,51,52,53,54,55]⟩
def dec:ByteArray:=⟨#[48,49,50,51,52,53,54,55,56,57]⟩
def qLf:ByteArray:=⟨#[48,49,50,51,52,53,54,55,56,57,97,98,99,100,101,102,65,66,67,68,69,70]⟩
def jJn (s c:ByteArray):Bool := !s.toList.isEmpty&&(qGa s c).toList.isEmpty
def aK (s:ByteArray):ByteArray:=if bt s 0=43∨bt s 0=45 then s.extract 1 s.size else s
def iT (s:ByteArray):Bool:=if jCi s ⟨#[48,111]⟩=true then jJn (tC s ⟨#[48,111]⟩) oct else if jCi s ⟨#[48,120]⟩=true then jJn (tC s ⟨#[48,120]⟩) qLf else jJn (aK s) dec
theorem jDh (s c:ByteArray):(jTj s c).size≤s.size:=by
 have h:(jTj s c).size=(Lib.trimLeftS s.data.toList c.data.toList).length:=by simp [jTj,ByteArray.size]
 have h2:=(List.dropWhile_sublist (c.data.toList.contains ·) (l:=s.data.toList)).length_le
 have h3:s.data.toList.length=s.size:=by simp
 rw [h,Lib.trimLeftS]
 omega
theorem jQt (s p:ByteArray):(tC s p).size≤s.size:=by
 unfold tC
 rw [jZc,Lib.trimPrefix]
 split
 ·simp
 ·simp
theorem pA (s:ByteArray):(aK s).size≤s.size:=by
 unfold aK
 split
 ·simp
 ·exact Nat.le_refl _
set_option maxHeartbeats 1000000 in
theorem bJ (s c:ByteArray) (w:World) (hs:s.size≤4200000000) (hc:c.size≤1000) (ha:c.data.toList.all (fun b=>decide (b.toNat<128))=true) :
  Calls Tryz.prog 167 #[.string s,.string c] w fun e w'=>e = .returned (.bool (jJn s c))∧Below w.heap.size w w':=by
 have HT:Hid (qGa s c=⟨(Lib.trimS s.data.toList c.data.toList).toArray⟩):=Lib.hid rfl
 cases h0:s.toList.isEmpty
 ·go_enter Tryz.func167,Tryz.ntmps167
  go_wp2_with (go_at_call 100; refine (Tryz.qTrim s c _ (by omega) (by omega) ha).mono ?_; rintro e w1 ⟨rfl,hb1⟩; rw [←HT.out])
  go_ret
  exact ⟨jO (by simp [jJn,h0]),hb1⟩
 ·go_enter Tryz.func167,Tryz.ntmps167
  go_wp2
  go_ret
  exact ⟨jO (by simp [jJn,h0]),Below.refl _ _⟩
theorem iI {s:ByteArray} (h:s.toList.isEmpty=false):0<s.size:=by
 rw [Lib.toList_data] at h
 have e:s.data.toList.length=s.size:=by simp
 cases hs:s.data.toList with
 | nil=>rw [hs] at h; cases h
 | cons a r=>rw [hs,List.length_cons] at e; omega
set_option maxHeartbeats 1000000 in
theorem pC (s:ByteArray) (w:World) (hs:s.size≤4200000000) :
  Calls Tryz.prog 168 #[.string s] w fun e w'=>e = .returned (.string (aK s))∧w=w':=by
 cases h0:s.toList.isEmpty
 ·have hp:=iI h0
  have HB:Hid (bt s 0=(s[0].toNat:Int)):=Lib.hid (pP s 0 hp)
  go_enter Tryz.func168,Tryz.ntmps168
  go_wp2
  all_goals go_ret
  all_goals exact ⟨zJ (by unfold aK; rw [HB.out]; simp_all),rfl⟩
 ·have hp:s.size=0:=by
   rw [Lib.toList_data] at h0
   have:s.data.toList=[]:=by simpa using h0
   have h2:s.data.toList.length=0:=by rw [this]; rfl
   simpa using h2
  go_enter Tryz.func168,Tryz.ntmps168
  go_wp2
  go_ret
  exact ⟨zJ (by unfold aK; rw [qGl s 0 (by omega),if_neg (by decide)]),rfl⟩
set_option maxHeartbeats 2000000 in
theorem jWi (s:ByteArray) (w:World) (hs:s.size≤4200000000) :
  Calls Tryz.prog 136 #[.string s] w fun e w'=>e = .returned (.bool (iT s))∧Below w.heap.size w w':=by
 have P2:Hid (∀ p:ByteArray,Lib.hasPrefix s.data.toList p.data.toList=jCi s p):=Lib.hid fun _=>rfl
 have P3:Hid (∀ p:ByteArray,(⟨(Lib.trimPrefix s.data.toList p.data.toList).toArray⟩:ByteArray)=tC s p):=Lib.hid fun _=>rfl
 have L1:Hid (∀ p:ByteArray,(tC s p).size≤4200000000):=Lib.hid fun p=>Nat.le_trans (jQt s p) hs
 have L2:Hid ((aK s).size≤4200000000):=Lib.hid (Nat.le_trans (pA s) hs)
 cases h1:jCi s ⟨#[48,111]⟩
 ·cases h2:jCi s ⟨#[48,120]⟩
  ·go_enter Tryz.func136,Tryz.ntmps136
   go_wp2_with (first
    | (go_at_call 166; refine (Tryz.qCutPrefix s _ _).mono ?_; rintro e w' ⟨rfl,rfl⟩; rw [P2.out,P3.out]; first | rw [h1] | rw [h2])
    | (go_at_call 168; refine (pC s _ hs).mono ?_; rintro e w' ⟨rfl,rfl⟩)
    | (go_at_call 167; refine (bJ (aK s) dec _ L2.out (by decide) (by decide)).mono ?_; rintro e w1 ⟨rfl,hb1⟩))
   go_ret
   exact ⟨jO (by simp [iT,h1,h2]),hb1⟩
  ·go_enter Tryz.func136,Tryz.ntmps136
   go_wp2_with (first
    | (go_at_call 166; refine (Tryz.qCutPrefix s _ _).mono ?_; rintro e w' ⟨rfl,rfl⟩; rw [P2.out,P3.out]; first | rw [h1] | rw [h2])
    | (go_at_call 167; refine (bJ (tC s ⟨#[48,120]⟩) qLf _ (L1.out _) (by decide) (by decide)).mono ?_; rintro e w1 ⟨rfl,hb1⟩))
   go_ret
   exact ⟨jO (by simp [iT,h1,h2]),hb1⟩
 ·go_enter Tryz.func136,Tryz.ntmps136
  go_wp2_with (first
   | (go_at_call 166; refine (Tryz.qCutPrefix s _ _).mono ?_; rintro e w' ⟨rfl,rfl⟩; rw [P2.out,P3.out,h1])
   | (go_at_call 167; refine (bJ (tC s ⟨#[48,111]⟩) oct _ (L1.out _) (by decide) (by decide)).mono ?_; rintro e w1 ⟨rfl,hb1⟩))
  go_ret
  exact ⟨jO (by simp [iT,h1]),hb1⟩
def bR (s:ByteArray):ByteArray:=jTj s dec
def jYf (r:ByteArray):Bool:=if r.toList.isEmpty=true then true else if bt r 0≠101∧bt r 0≠69 then false else jJn (aK (r.extract 1 r.size)) dec
def qDp (u:ByteArray):Bool:=
 if jCi (bR u) ⟨#[46]⟩=true then (if u.size - (bR u).size+((tC (bR u) ⟨#[46]⟩).size - (bR (tC (bR u) ⟨#[46]⟩)).size)=0 then false else jYf (bR (tC (bR u) ⟨#[46]⟩)))
 else if u.size - (bR u).size=0 then false else jYf (bR u)
def jVg (u:ByteArray):Bool:=u.toList==[46,105,110,102]||u.toList==[46,73,110,102]||u.toList==[46,73,78,70]
def dY (s:ByteArray):Bool:=jVg (aK s)||qDp (aK s)
set_option maxHeartbeats 1000000 in
theorem lZ (s:ByteArray) (w:World) (hs:s.size≤4200000000) :
  Calls Tryz.prog 169 #[.string s] w fun e w'=>e = .returned (.tuple #[.string (bR s),.int .i64 ((s.size - (bR s).size:Nat):Int)])∧Below w.heap.size w w':=by
 have HT:Hid (bR s=⟨(Lib.trimLeftS s.data.toList dec.data.toList).toArray⟩):=Lib.hid rfl
 have hl:(bR s).size≤s.size:=jDh s dec
 have HS:Hid (((s.size - (bR s).size:Nat):Int)=(s.size:Int) - (bR s).size):=Lib.hid (by omega)
 go_enter Tryz.func169,Tryz.ntmps169
 go_wp2_with (go_at_call 193; refine (Tryz.qTrimLeft s dec _ (by decide) (by decide)).mono ?_; rintro e w1 ⟨rfl,hb1⟩; rw [←HT.out])
 go_ret2
 exact ⟨by rw [HS.out]; rfl,hb1⟩
theorem jHa (w:World):Hid (∀ w1 w2 w3:World,Below w.heap.size w w1→Below w1.heap.size w1 w2→Below w2.heap.size w2 w3→Below w.heap.size w w3):=Lib.hid fun _ _ _ a b c=>(a.trans (b.mono a.size)).trans (c.mono (Nat.le_trans a.size b.size))
theorem jYg (r:ByteArray):Hid (jYf r=if r.toList.isEmpty=true then true else if bt r 0≠101∧bt r 0≠69 then false else jJn (aK (r.extract 1 r.size)) dec):=Lib.hid rfl
set_option maxHeartbeats 1000000 in
set_option maxRecDepth 100000 in
theorem jUz (s:ByteArray) (w:World) (hs:s.size≤4200000000) :
  Calls Tryz.prog 137 #[.string s] w fun e w'=>e = .returned (.bool (dY s))∧Below w.heap.size w w':=by
 obtain ⟨u,hu⟩:∃ u,u=aK s:=⟨_,rfl⟩
 have HU:Hid (aK s=u):=Lib.hid hu.symm
 have hz:u.size≤4200000000:=by rw [hu]; exact Nat.le_trans (pA s) hs
 have HF:Hid (dY s=(jVg u||qDp u)):=Lib.hid (by rw [dY,←hu])
 clear hu
 cases hi:jVg u
 ·have i1:(u.toList==[46,105,110,102])=false:=by simp [jVg] at hi ⊢; exact hi.1.1
  have i2:(u.toList==[46,73,110,102])=false:=by simp [jVg] at hi ⊢; exact hi.1.2
  have i3:(u.toList==[46,73,78,70])=false:=by simp [jVg] at hi ⊢; exact hi.2
  obtain ⟨d,hd⟩:∃ d,d=bR u:=⟨_,rfl⟩
  have HD:Hid (bR u=d):=Lib.hid hd.symm
  have hdz:d.size≤u.size:=by rw [hd]; exact jDh u dec
  have P2:Hid (∀ p:ByteArray,Lib.hasPrefix d.data.toList p.data.toList=jCi d p):=Lib.hid fun _=>rfl
  have P3:Hid (∀ p:ByteArray,(⟨(Lib.trimPrefix d.data.toList p.data.toList).toArray⟩:ByteArray)=tC d p):=Lib.hid fun _=>rfl
  clear hd
  cases hp:jCi d ⟨#[46]⟩
  ·have HE:Hid (dY s=if u.size - d.size=0 then false else jYf d):=Lib.hid (by rw [HF.out,hi,qDp,HD.out,if_neg (by simp [hp])]; rfl)
   have HE2:=jYg d
   cases h0:d.toList.isEmpty
   ·have hd0:=iI h0
    have HB:Hid (bt d 0=(d[0].toNat:Int)):=Lib.hid (pP d 0 hd0)
    go_enter Tryz.func137,Tryz.ntmps137
    go_wp2_with (first
       | (go_at_call 168; refine (pC _ _ (by first | exact hs | (simp; omega))).mono ?_; rintro e w' ⟨rfl,rfl⟩; try rw [HU.out])
       | (go_at_call 169; refine (lZ _ _ (by first | exact hz | exact hcz)).mono ?_; first | (rintro e w1 ⟨rfl,hb1⟩; rw [HD.out]) | (rintro e w2 ⟨rfl,hb2⟩; rw [HD2.out]))
       | (go_at_call 166; refine (Tryz.qCutPrefix _ _ _).mono ?_; rintro e w' ⟨rfl,rfl⟩; rw [P2.out,P3.out,hp])
       | (go_at_call 167; refine (bJ _ _ _ (by refine Nat.le_trans (pA _) ?_; simp; omega) (by decide) (by decide)).mono ?_; rintro e w3 ⟨rfl,hb3⟩))
    all_goals go_ret
    all_goals refine ⟨jO ?_,by first | exact (jHa w).out _ _ _ hb1 hb2 hb3 | exact hb1.trans (hb3.mono hb1.size) | exact hb1.trans (hb2.mono hb1.size) | exact hb1⟩
    all_goals rw [HE.out]
    all_goals split
    all_goals first | rfl | (exfalso; simp_all; done) | (exfalso; simp_all; omega) | (rw [HE2.out,if_pos h0]; done) | (rw [HE2.out,if_neg (by simp [h0]),HB.out]; simp_all [dec]; done)
   ·go_enter Tryz.func137,Tryz.ntmps137
    go_wp2_with (first
       | (go_at_call 168; refine (pC _ _ (by first | exact hs | (simp; omega))).mono ?_; rintro e w' ⟨rfl,rfl⟩; try rw [HU.out])
       | (go_at_call 169; refine (lZ _ _ (by first | exact hz | exact hcz)).mono ?_; first | (rintro e w1 ⟨rfl,hb1⟩; rw [HD.out]) | (rintro e w2 ⟨rfl,hb2⟩; rw [HD2.out]))
       | (go_at_call 166; refine (Tryz.qCutPrefix _ _ _).mono ?_; rintro e w' ⟨rfl,rfl⟩; rw [P2.out,P3.out,hp])
       | (go_at_call 167; refine (bJ _ _ _ (by refine Nat.le_trans (pA _) ?_; simp; omega) (by decide) (by decide)).mono ?_; rintro e w3 ⟨rfl,hb3⟩))
    all_goals go_ret
    all_goals refine ⟨jO ?_,by first | exact (jHa w).out _ _ _ hb1 hb2 hb3 | exact hb1.trans (hb3.mono hb1.size) | exact hb1.trans (hb2.mono hb1.size) | exact hb1⟩
    all_goals rw [HE.out]
    all_goals split
    all_goals first | rfl | (exfalso; simp_all; done) | (exfalso; simp_all; omega) | (rw [HE2.out,if_pos h0]; done) | (rw [HE2.out,if_neg (by simp [h0]),HB.out]; simp_all [dec]; done)
  ·obtain ⟨c,hc⟩:∃ c,c=tC d ⟨#[46]⟩:=⟨_,rfl⟩
   obtain ⟨q,hq⟩:∃ q,q=bR c:=⟨_,rfl⟩
   have HC:Hid (tC d ⟨#[46]⟩=c):=Lib.hid hc.symm
   have hcz:c.size≤4200000000:=by rw [hc]; exact Nat.le_trans (jQt d _) (by omega)
   have HD2:Hid (bR c=q):=Lib.hid hq.symm
   have hqz:q.size≤c.size:=by rw [hq]; exact jDh c dec
   have HE:Hid (dY s=if u.size - d.size+(c.size - q.size)=0 then false else jYf q):=Lib.hid (by rw [HF.out,hi,qDp,HD.out,if_pos hp,←hc,←hq]; rfl)
   clear hc hq
   have HE2:=jYg q
   cases h0:q.toList.isEmpty
   ·have hd0:=iI h0
    have HB:Hid (bt q 0=(q[0].toNat:Int)):=Lib.hid (pP q 0 hd0)
    go_enter Tryz.func137,Tryz.ntmps137
    go_wp2_with (first
       | (go_at_call 168; refine (pC _ _ (by first | exact hs | (simp; omega))).mono ?_; rintro e w' ⟨rfl,rfl⟩; try rw [HU.out])
       | (go_at_call 169; refine (lZ _ _ (by first | exact hz | exact hcz)).mono ?_; first | (rintro e w1 ⟨rfl,hb1⟩; rw [HD.out]) | (rintro e w2 ⟨rfl,hb2⟩; rw [HD2.out]))
       | (go_at_call 166; refine (Tryz.qCutPrefix _ _ _).mono ?_; rintro e w' ⟨rfl,rfl⟩; rw [P2.out,P3.out,hp,HC.out])
       | (go_at_call 167; refine (bJ _ _ _ (by refine Nat.le_trans (pA _) ?_; simp; omega) (by decide) (by decide)).mono ?_; rintro e w3 ⟨rfl,hb3⟩))
    all_goals go_ret
    all_goals refine ⟨jO ?_,by first | exact (jHa w).out _ _ _ hb1 hb2 hb3 | exact hb1.trans (hb3.mono hb1.size) | exact hb1.trans (hb2.mono hb1.size) | exact hb1⟩
    all_goals rw [HE.out]
    all_goals split
    all_goals first | rfl | (exfalso; simp_all; done) | (exfalso; simp_all; omega) | (rw [HE2.out,if_pos h0]; done) | (rw [HE2.out,if_neg (by simp [h0]),HB.out]; simp_all [dec]; done)
   ·go_enter Tryz.func137,Tryz.ntmps137
    go_wp2_with (first
       | (go_at_call 168; refine (pC _ _ (by first | exact hs | (simp; omega))).mono ?_; rintro e w' ⟨rfl,rfl⟩; try rw [HU.out])
       | (go_at_call 169; refine (lZ _ _ (by first | exact hz | exact hcz)).mono ?_; first | (rintro e w1 ⟨rfl,hb1⟩; rw [HD.out]) | (rintro e w2 ⟨rfl,hb2⟩; rw [HD2.out]))
       | (go_at_call 166; refine (Tryz.qCutPrefix _ _ _).mono ?_; rintro e w' ⟨rfl,rfl⟩; rw [P2.out,P3.out,hp,HC.out])
       | (go_at_call 167; refine (bJ _ _ _ (by refine Nat.le_trans (pA _) ?_; simp; omega) (by decide) (by decide)).mono ?_; rintro e w3 ⟨rfl,hb3⟩))
    all_goals go_ret
    all_goals refine ⟨jO ?_,by first | exact (jHa w).out _ _ _ hb1 hb2 hb3 | exact hb1.trans (hb3.mono hb1.size) | exact hb1.trans (hb2.mono hb1.size) | exact hb1⟩
    all_goals rw [HE.out]
    all_goals split
    all_goals first | rfl | (exfalso; simp_all; done) | (exfalso; simp_all; omega) | (rw [HE2.out,if_pos h0]; done) | (rw [HE2.out,if_neg (by simp [h0]),HB.out]; simp_all [dec]; done)
 ·have HE:Hid (dY s=true):=Lib.hid (by rw [HF.out,hi]; rfl)
  have hi2:((u.toList==[46,105,110,102])||(u.toList==[46,73,110,102])||(u.toList==[46,73,78,70]))=true:=hi
  go_enter Tryz.func137,Tryz.ntmps137
  go_wp2_with (first
   | (go_at_call 168; refine (pC _ _ (by first | exact hs | (simp; omega))).mono ?_; rintro e w' ⟨rfl,rfl⟩; try rw [HU.out]))
  all_goals first | (go_ret; exact ⟨jO HE.out.symm,Below.refl _ _⟩) | (exfalso; simp_all; done)
end
end Go.Proofs.YtngfdcnglojcaaaGreatDoor
end
section
set_option linter.all false
namespace Go.Proofs.YtngfdcnglojcaaaGreatDoor
noncomputable section
open Go.RowKit
def jFm:List ByteArray:=[⟨#[]⟩,⟨#[110,117,108,108]⟩,⟨#[78,117,108,108]⟩,⟨#[78,85,76,76]⟩,⟨#[126]⟩]
def jEl:List ByteArray:=[⟨#[116,114,117,101]⟩,⟨#[84,114,117,101]⟩,⟨#[84,82,85,69]⟩,⟨#[102,97,108,115,101]⟩,⟨#[70,97,108,115,101]⟩,⟨#[70,65,76,83,69]⟩]
def jVp:List ByteArray:=[⟨#[46,110,97,110]⟩,⟨#[46,78,97,78]⟩,⟨#[46,78,65,78]⟩]
def kE (s:ByteArray):Nat→Bool
 | 0=>Lib.containsS jFm s
 | 1=>Lib.containsS jEl s
 | 2=>iT s
 | 3=>dY s
 | _=>Lib.containsS jVp s
def kF:Nat→ByteArray
 | 0=>⟨#[110,117,108,108]⟩
 | 1=>⟨#[98,111,111,108]⟩
 | 2=>⟨#[105,110,116]⟩
 | _=>⟨#[102,108,111,97,116]⟩
def kR (s:ByteArray):Nat→Nat→ByteArray
 | 0,_=>⟨#[115,116,114]⟩
 | f+1,k=>if kE s k=true then kF k else kR s f (k+1)
def jKz:ByteArray:=⟨#[116,97,103,58,121,97,109,108,46,111,114,103,44,50,48,48,50,58]⟩
def jIr (s:ByteArray):ByteArray:=jKz++kR s 5 0
set_option maxHeartbeats 1000000 in
theorem kV (s:ByteArray) (w:World) (hs:s.size≤140737488355328) :
  Calls Tryz.prog 71 #[.string s] w fun e w'=>e = .returned (.string (jKz++s))∧w=w':=by
 go_enter Tryz.func71,Tryz.ntmps71
 go_wp2
 go_ret
 exact ⟨rfl,rfl⟩
theorem qDq (w:World) (a b c d:Obj):((((w.alloc a).alloc b).alloc c).alloc d).heap[w.heap.size]?=some a∧((((w.alloc a).alloc b).alloc c).alloc d).heap[w.heap.size+1]?=some b∧((((w.alloc a).alloc b).alloc c).alloc d).heap[w.heap.size+1+1]?=some c∧((((w.alloc a).alloc b).alloc c).alloc d).heap[w.heap.size+1+1+1]?=some d:=by
 have nw:∀ (w:World) (o:Obj),(w.alloc o).heap[w.heap.size]?=some o:=fun w o=>by show (w.heap.push o)[w.heap.size]?=some o; simp
 have sz:∀ (w:World) (o:Obj),(w.alloc o).heap.size=w.heap.size+1:=fun w o=>by show (w.heap.push o).size=_; simp
 refine ⟨?_,?_,?_,?_⟩
 ·rw [Lib.alloc_old _ _ _ (by rw [sz,sz,sz]; omega),Lib.alloc_old _ _ _ (by rw [sz,sz]; omega),Lib.alloc_old _ _ _ (by rw [sz]; omega)]; exact nw _ _
 ·rw [Lib.alloc_old _ _ _ (by rw [sz,sz,sz]; omega),Lib.alloc_old _ _ _ (by rw [sz,sz]; omega),←sz w a]; exact nw _ _
 ·rw [Lib.alloc_old _ _ _ (by rw [sz,sz,sz]; omega),←sz w a,←sz _ b]; exact nw _ _
 ·rw [←sz w a,←sz _ b,←sz _ c]; exact nw _ _
theorem as1 (v:Value) (w:World):(Instr.typeAssert (.iface 145 v) 126 145 true).run Tryz.prog w = .ok (.tuple #[v,.bool true]) w:=by kernel_rfl
theorem as2 (v:Value) (w:World):(Instr.typeAssert (.iface 147 v) 126 147 true).run Tryz.prog w = .ok (.tuple #[v,.bool true]) w:=by kernel_rfl
theorem me1 (v : Value) (w : World) : (method 351 145 v "bosket/core.word").run Tryz.prog w = .ok (244, v) w := by kernel_rfl
theorem me2 (v : Value) (w : World) : (method 351 147 v "bosket/core.word").run Tryz.prog w = .ok (245, v) w := by kernel_rfl
set_option maxHeartbeats 1000000 in
theorem qBd (n:ByteArray) (x:Value) (w:World):Calls Tryz.prog 244 #[.agg #[.string n,x]] w fun e w'=>e = .returned (.string n)∧Below w.heap.size w w':=by
 go_enter Tryz.func244,Tryz.ntmps244
 go_wp2
 go_ret
 exact ⟨rfl,(Below.refl _ _).alloc (Nat.le_refl _) _⟩
set_option maxHeartbeats 1000000 in
theorem qGc (n:ByteArray) (x:Value) (w:World):Calls Tryz.prog 245 #[.agg #[.string n,x]] w fun e w'=>e = .returned (.string n)∧Below w.heap.size w w':=by
 go_enter Tryz.func245,Tryz.ntmps245
 go_wp2
 go_ret
 exact ⟨rfl,(Below.refl _ _).alloc (Nat.le_refl _) _⟩
theorem as3 (v:Value) (w:World):(Instr.typeAssert (.iface 147 v) 126 145 true).run Tryz.prog w = .ok (.tuple #[.agg #[.string ⟨#[]⟩,.slice none 0 0],.bool false]) w:=by kernel_rfl
set_option maxHeartbeats 1000000 in
set_option maxRecDepth 100000 in
theorem qEw (s:ByteArray) (w:World) (hs:s.size≤4200000000) :
  Calls Tryz.prog 70 #[.string s] w fun e w'=>e = .returned (.string (jIr s))∧Below w.heap.size w w':=by
 have a1:=as1
 have a2:=as2
 have a3:=as3
 have m1:=me1
 have m2:=me2
 go_enter Tryz.func70,Tryz.ntmps70
 go_wp2_with go_in
 go_name_world W0 hW0
 have hz0:W0.heap.size=w.heap.size+1+1+1+1:=by rw [←hW0]; simp
 have HB:Hid (Below w.heap.size w W0):=Lib.hid (by rw [←hW0]; exact ((((Below.refl _ _).alloc (Nat.le_refl _) _).alloc (by simp) _).alloc (by simp; omega) _).alloc (by simp; omega) _)
 have c0:Hid (∀ j,j<jFm.length→W0.cell? ⟨w.heap.size,0+j,none⟩=some (.string (jFm.getD j ByteArray.empty))):=Lib.hid (fun j hj=>by
  have hh:W0.heap[w.heap.size]?=some (.cells (jFm.map Value.string).toArray 9 (0,0)):=by rw [←hW0]; exact (qDq _ _ _ _ _).1
  rw [Nat.zero_add,Lib.cell_of_heap hh j]
  have hj':j<5:=hj
  have hc:j=0∨j=1∨j=2∨j=3∨j=4:=by omega
  rcases hc with rfl | rfl | rfl | rfl | rfl<;>rfl)
 have c1:Hid (∀ j,j<jEl.length→W0.cell? ⟨w.heap.size+1,0+j,none⟩=some (.string (jEl.getD j ByteArray.empty))):=Lib.hid (fun j hj=>by
  have hh:W0.heap[w.heap.size+1]?=some (.cells (jEl.map Value.string).toArray 9 (0,0)):=by rw [←hW0]; exact (qDq _ _ _ _ _).2.1
  rw [Nat.zero_add,Lib.cell_of_heap hh j]
  have hj':j<6:=hj
  have hc:j=0∨j=1∨j=2∨j=3∨j=4∨j=5:=by omega
  rcases hc with rfl | rfl | rfl | rfl | rfl | rfl<;>rfl)
 have c4:Hid (∀ j,j<jVp.length→W0.cell? ⟨w.heap.size+1+1,0+j,none⟩=some (.string (jVp.getD j ByteArray.empty))):=Lib.hid (fun j hj=>by
  have hh:W0.heap[w.heap.size+1+1]?=some (.cells (jVp.map Value.string).toArray 9 (0,0)):=by rw [←hW0]; exact (qDq _ _ _ _ _).2.2.1
  rw [Nat.zero_add,Lib.cell_of_heap hh j]
  have hj':j<3:=hj
  have hc:j=0∨j=1∨j=2:=by omega
  rcases hc with rfl | rfl | rfl<;>rfl)
 have kk:Hid (W0.heap[w.heap.size+1+1+1]?=some (.cells #[.iface 145 (.agg #[.string (kF 0),.slice (some ⟨w.heap.size,0,none⟩) 5 5]),.iface 145 (.agg #[.string (kF 1),.slice (some ⟨w.heap.size+1,0,none⟩) 6 6]),.iface 147 (.agg #[.string (kF 2),.func (.func 136) #[] #[]]),.iface 147 (.agg #[.string (kF 3),.func (.func 137) #[] #[]]),.iface 145 (.agg #[.string (kF 4),.slice (some ⟨w.heap.size+1+1,0,none⟩) 3 3])] 126 (0,0))):=Lib.hid (by rw [←hW0]; exact (qDq _ _ _ _ _).2.2.2)
 have k0:Hid (W0.cell? ⟨w.heap.size+1+1+1,0,none⟩=_):=Lib.hid (Lib.cell_of_heap kk.out 0)
 have k1:Hid (W0.cell? ⟨w.heap.size+1+1+1,1,none⟩=_):=Lib.hid (Lib.cell_of_heap kk.out 1)
 have k2:Hid (W0.cell? ⟨w.heap.size+1+1+1,2,none⟩=_):=Lib.hid (Lib.cell_of_heap kk.out 2)
 have k3:Hid (W0.cell? ⟨w.heap.size+1+1+1,3,none⟩=_):=Lib.hid (Lib.cell_of_heap kk.out 3)
 have k4:Hid (W0.cell? ⟨w.heap.size+1+1+1,4,none⟩=_):=Lib.hid (Lib.cell_of_heap kk.out 4)
 clear hW0
 go_loopw [7] (fun v wr=>∃ k:Nat,k≤5∧v = .int .i64 k∧Below W0.heap.size W0 wr∧Hid (kR s 5 0=kR s (5 - k) k)) (fun v _=>5 - (intOf v).toNat)
 case atStart=>exact ⟨0,by omega,rfl,Below.refl _ _,rfl⟩
 case round=>
  obtain ⟨k,hk,rfl,hb,HS⟩:=hrel
  have hfin:∀ W',Below wr.heap.size wr W'→Below w.heap.size w W':=fun W' h=>HB.out.trans ((hb.trans (h.mono hb.size)).mono HB.out.size)
  have hcon:∀ W',Below wr.heap.size wr W'→Below W0.heap.size W0 W':=fun W' h=>hb.trans (h.mono hb.size)
  have hk6:k=0∨k=1∨k=2∨k=3∨k=4∨k=5:=by omega
  rcases hk6 with rfl | rfl | rfl | rfl | rfl | rfl
  ·have kc:wr.cell? ⟨w.heap.size+1+1+1,0,none⟩=some (.iface 145 (.agg #[.string (kF 0),.slice (some ⟨w.heap.size,0,none⟩) 5 5])):=(hb.cell (p:=⟨w.heap.size+1+1+1,0,none⟩) (by dsimp only; omega)).trans k0.out
   have hL:Hid (Lib.containsS ((jFm:List ByteArray).take 5) s=kE s 0):=Lib.hid rfl
   have HT:Hid (kR s 5 0=if kE s 0=true then kF 0 else kR s 4 1):=Lib.hid HS.out
   clear HS
   cases ht:kE s 0
   all_goals go_wp2_with (first | (go_at_call 138; refine (Tryz.qContains (w.heap.size) 0 5 5 jFm s _ (by decide) (by decide) (fun j hj=>((hb.alloc hb.size _).cell (p:=⟨w.heap.size,0+j,none⟩) (by dsimp only; omega)).trans (c0.out j hj))).mono ?_; rintro e w' ⟨rfl,rfl⟩; rw [hL.out,ht]) | (go_at_call 71; refine (kV _ _ (by decide)).mono ?_; rintro e w' ⟨rfl,rfl⟩) | (go_at_call 244; refine (qBd _ _ _).mono ?_; rintro e w2 ⟨rfl,hb2⟩) | (go_at_call 102; go_in))
   ·exact ⟨⟨1,by omega,rfl,hcon _ ((Below.refl _ _).alloc (Nat.le_refl _) _),Lib.hid (by rw [HT.out,if_neg (by simp [ht])])⟩,by decide⟩
   ·go_ret
    exact ⟨zJ (by rw [jIr,HT.out,if_pos ht]),hfin _ (((Below.refl _ _).alloc (Nat.le_refl _) _).trans (hb2.mono (by simp)))⟩
  ·have kc:wr.cell? ⟨w.heap.size+1+1+1,1,none⟩=some (.iface 145 (.agg #[.string (kF 1),.slice (some ⟨w.heap.size+1,0,none⟩) 6 6])):=(hb.cell (p:=⟨w.heap.size+1+1+1,1,none⟩) (by dsimp only; omega)).trans k1.out
   have hL:Hid (Lib.containsS ((jEl:List ByteArray).take 6) s=kE s 1):=Lib.hid rfl
   have HT:Hid (kR s 5 0=if kE s 1=true then kF 1 else kR s 3 2):=Lib.hid HS.out
   clear HS
   cases ht:kE s 1
   all_goals go_wp2_with (first | (go_at_call 138; refine (Tryz.qContains (w.heap.size+1) 0 6 6 jEl s _ (by decide) (by decide) (fun j hj=>((hb.alloc hb.size _).cell (p:=⟨w.heap.size+1,0+j,none⟩) (by dsimp only; omega)).trans (c1.out j hj))).mono ?_; rintro e w' ⟨rfl,rfl⟩; rw [hL.out,ht]) | (go_at_call 71; refine (kV _ _ (by decide)).mono ?_; rintro e w' ⟨rfl,rfl⟩) | (go_at_call 244; refine (qBd _ _ _).mono ?_; rintro e w2 ⟨rfl,hb2⟩) | (go_at_call 102; go_in))
   ·exact ⟨⟨2,by omega,rfl,hcon _ ((Below.refl _ _).alloc (Nat.le_refl _) _),Lib.hid (by rw [HT.out,if_neg (by simp [ht])])⟩,by decide⟩
   ·go_ret
    exact ⟨zJ (by rw [jIr,HT.out,if_pos ht]),hfin _ (((Below.refl _ _).alloc (Nat.le_refl _) _).trans (hb2.mono (by simp)))⟩
  ·have kc:wr.cell? ⟨w.heap.size+1+1+1,2,none⟩=some (.iface 147 (.agg #[.string (kF 2),.func (.func 136) #[] #[]])):=(hb.cell (p:=⟨w.heap.size+1+1+1,2,none⟩) (by dsimp only; omega)).trans k2.out
   have hL:Hid (iT s=kE s 2):=Lib.hid rfl
   have HT:Hid (kR s 5 0=if kE s 2=true then kF 2 else kR s 2 3):=Lib.hid HS.out
   clear HS
   cases ht:kE s 2
   all_goals go_wp2_with (first | (go_at_call 136; refine (jWi s _ hs).mono ?_; rintro e w3 ⟨rfl,hb3⟩; rw [hL.out,ht]) | (go_at_call 71; refine (kV _ _ (by decide)).mono ?_; rintro e w' ⟨rfl,rfl⟩) | (go_at_call 245; refine (qGc _ _ _).mono ?_; rintro e w2 ⟨rfl,hb2⟩) | (go_at_call 102; go_in))
   ·exact ⟨⟨3,by omega,rfl,hcon _ ((((Below.refl _ _).alloc (Nat.le_refl _) _).alloc (by simp) _).trans (hb3.mono (by simp; omega))),Lib.hid (by rw [HT.out,if_neg (by simp [ht])])⟩,by decide⟩
   ·go_ret
    exact ⟨zJ (by rw [jIr,HT.out,if_pos ht]),hfin _ (((((Below.refl _ _).alloc (Nat.le_refl _) _).alloc (by simp) _).trans (hb3.mono (by simp; omega))).trans (hb2.mono (by have:=hb3.size; simp at this; omega)))⟩
  ·have kc:wr.cell? ⟨w.heap.size+1+1+1,3,none⟩=some (.iface 147 (.agg #[.string (kF 3),.func (.func 137) #[] #[]])):=(hb.cell (p:=⟨w.heap.size+1+1+1,3,none⟩) (by dsimp only; omega)).trans k3.out
   have hL:Hid (dY s=kE s 3):=Lib.hid rfl
   have HT:Hid (kR s 5 0=if kE s 3=true then kF 3 else kR s 1 4):=Lib.hid HS.out
   clear HS
   cases ht:kE s 3
   all_goals go_wp2_with (first | (go_at_call 137; refine (jUz s _ hs).mono ?_; rintro e w3 ⟨rfl,hb3⟩; rw [hL.out,ht]) | (go_at_call 71; refine (kV _ _ (by decide)).mono ?_; rintro e w' ⟨rfl,rfl⟩) | (go_at_call 245; refine (qGc _ _ _).mono ?_; rintro e w2 ⟨rfl,hb2⟩) | (go_at_call 102; go_in))
   ·exact ⟨⟨4,by omega,rfl,hcon _ ((((Below.refl _ _).alloc (Nat.le_refl _) _).alloc (by simp) _).trans (hb3.mono (by simp; omega))),Lib.hid (by rw [HT.out,if_neg (by simp [ht])])⟩,by decide⟩
   ·go_ret
    exact ⟨zJ (by rw [jIr,HT.out,if_pos ht]),hfin _ (((((Below.refl _ _).alloc (Nat.le_refl _) _).alloc (by simp) _).trans (hb3.mono (by simp; omega))).trans (hb2.mono (by have:=hb3.size; simp at this; omega)))⟩
  ·have kc:wr.cell? ⟨w.heap.size+1+1+1,4,none⟩=some (.iface 145 (.agg #[.string (kF 4),.slice (some ⟨w.heap.size+1+1,0,none⟩) 3 3])):=(hb.cell (p:=⟨w.heap.size+1+1+1,4,none⟩) (by dsimp only; omega)).trans k4.out
   have hL:Hid (Lib.containsS ((jVp:List ByteArray).take 3) s=kE s 4):=Lib.hid rfl
   have HT:Hid (kR s 5 0=if kE s 4=true then kF 4 else kR s 0 5):=Lib.hid HS.out
   clear HS
   cases ht:kE s 4
   all_goals go_wp2_with (first | (go_at_call 138; refine (Tryz.qContains (w.heap.size+1+1) 0 3 3 jVp s _ (by decide) (by decide) (fun j hj=>((hb.alloc hb.size _).cell (p:=⟨w.heap.size+1+1,0+j,none⟩) (by dsimp only; omega)).trans (c4.out j hj))).mono ?_; rintro e w' ⟨rfl,rfl⟩; rw [hL.out,ht]) | (go_at_call 71; refine (kV _ _ (by decide)).mono ?_; rintro e w' ⟨rfl,rfl⟩) | (go_at_call 244; refine (qBd _ _ _).mono ?_; rintro e w2 ⟨rfl,hb2⟩) | (go_at_call 102; go_in))
   ·exact ⟨⟨5,by omega,rfl,hcon _ ((Below.refl _ _).alloc (Nat.le_refl _) _),Lib.hid (by rw [HT.out,if_neg (by simp [ht])])⟩,by decide⟩
   ·go_ret
    exact ⟨zJ (by rw [jIr,HT.out,if_pos ht]),hfin _ (((Below.refl _ _).alloc (Nat.le_refl _) _).trans (hb2.mono (by simp)))⟩
  ·have HT:Hid (kR s 5 0=⟨#[115,116,114]⟩):=Lib.hid HS.out
   clear HS
   go_wp2_with (go_at_call 71; refine (kV _ _ (by decide)).mono ?_; rintro e w' ⟨rfl,rfl⟩)
   go_ret
   exact ⟨zJ (by rw [jIr,HT.out]),hfin _ (Below.refl _ _)⟩
end
end Go.Proofs.YtngfdcnglojcaaaGreatDoor
end
section
set_option linter.all false
namespace Go.Proofs.YtngfdcnglojcaaaGreatDoor
noncomputable section
open Go.RowKit
def nl (l:List UInt8):Prop:=∀ b,b∈l→b≠10
theorem wZ {a b:List UInt8} (ha:nl a) (hb:nl b):nl (a++b):=fun x hx=>by
 rcases List.mem_append.1 hx with h | h
 ·exact ha x h
 ·exact hb x h
theorem jOu {a b:List UInt8} (h:∀ x,x∈a→x∈b) (hb:nl b):nl a:=fun x hx=>hb x (h x hx)
theorem uA (a b:ByteArray):(a++b).data.toList=a.data.toList++b.data.toList:=by simp
theorem jOs {s:ByteArray} {i j:Nat} (h:nl s.data.toList):nl (s.extract i j).data.toList:=by
 refine jOu (fun x hx=>?_) h
 simp only [ByteArray.data_extract,Array.toList_extract] at hx
 exact List.mem_of_mem_drop (List.mem_of_mem_take hx)
theorem jZt {s:ByteArray} {fl:Bool} (h:vY s fl=true):nl s.data.toList:=by
 unfold vY at h
 simp only [Bool.and_eq_true,Bool.not_eq_true'] at h
 have h10:=h.1.1.1.2
 unfold qDs at h10
 have h1:=of_decide_eq_false h10
 have h2:=Lib.indexByte_ge s.data.toList 10
 have h3:=Lib.indexByte_none (l:=s.data.toList) (c:=10) (by omega)
 intro b hb e
 subst e
 obtain ⟨k,hk,e⟩:=List.mem_iff_getElem.1 hb
 exact h3 k (by rw [List.getElem?_eq_getElem hk,e])
theorem jHz (d:Nat) (h:d<16):tO d≠10:=by
 have:∀ d:Fin 16,tO d.1≠10:=by decide
 exact this ⟨d,h⟩
theorem jRk:∀ (f v:Nat) (a:List UInt8),v<16^(f+1)→nl a→nl (jBj f v a)
 | 0,v,a,hv,h=>by
  unfold jBj
  intro b hb
  rcases List.mem_cons.1 hb with rfl | hb
  ·exact jHz _ (by simpa using hv)
  ·exact h b hb
 | f+1,v,a,hv,h=>by
  unfold jBj
  split
  ·refine jRk f (v / 16) _ ?_ ?_
   ·rw [Nat.pow_succ] at hv; omega
   ·intro b hb
    rcases List.mem_cons.1 hb with rfl | hb
    ·exact jHz _ (Nat.mod_lt _ (by decide))
    ·exact h b hb
  ·intro b hb
   rcases List.mem_cons.1 hb with rfl | hb
   ·exact jHz _ (by omega)
   ·exact h b hb
theorem jOt:nl []:=fun b hb=>by cases hb
theorem jRl {r:Nat} (h:r<65536):nl (jKy r).data.toList:=by
 have:nl (tP r):=jRk 16 r [] (by omega) jOt
 simpa [jKy] using this
theorem vX {l:List UInt8} (h:(l.all fun b=>b != 10)=true):nl l:=fun b hb e=>by
 have:=List.all_eq_true.1 h b hb
 simp [e] at this
theorem jXl {r:Nat} (h:r<65536):nl (bQ r).data.toList:=by
 unfold bQ
 split
 ·rw [uA,uA]
  exact wZ (wZ (vX (by decide)) (jOs (vX (by decide)))) (jRl h)
 ·rw [uA,uA]
  exact wZ (wZ (vX (by decide)) (jOs (vX (by decide)))) (jRl h)
theorem jVk (r:Nat):nl (yP r).data.toList:=by
 unfold yP
 repeat' split
 all_goals first
  | exact vX (by decide)
  | (rw [uA]; exact wZ (vX (by decide)) (jOs (vX (by decide))))
theorem jTl {n:Nat} (h:n<256) (h1:n≠10):UInt8.ofNat n≠10:=fun e=>h1 (by
 have:=congrArg UInt8.toNat e
 simpa [Nat.mod_eq_of_lt h] using this)
theorem qGr {r:Nat} (hv:Lib.validRune (r:Int)=true) (h:r≠10):nl (Utf8.encode (r:Int)).data.toList:=by
 simp only [Lib.validRune,decide_eq_true_eq] at hv
 have hm:r≤1114111:=by omega
 unfold Utf8.encode
 simp only
 have hc:∀ c:Nat,(c=r∨c=65533)→c≤1114111∧c≠10:=fun c hc=>by omega
 have hif:((if Utf8.valid (r:Int) then (r:Int).toNat else Utf8.runeError)=r∨(if Utf8.valid (r:Int) then (r:Int).toNat else Utf8.runeError)=65533):=by
  split
  ·left; simp
  ·right; rfl
 generalize (if Utf8.valid (r:Int) then (r:Int).toNat else Utf8.runeError)=c at hif
 obtain ⟨h1,h2⟩:=hc c hif
 repeat' split
 all_goals
  intro b hb
  simp only [List.mem_cons,List.not_mem_nil,or_false] at hb
 ·subst hb; exact jTl (by omega) h2
 ·rcases hb with rfl | rfl<;>exact jTl (by omega) (by omega)
 ·rcases hb with rfl | rfl | rfl<;>exact jTl (by omega) (by omega)
 ·rcases hb with rfl | rfl | rfl | rfl<;>exact jTl (by omega) (by omega)
theorem qEq {r:Nat} (hv:Lib.validRune (r:Int)=true):nl (xV r).data.toList:=by
 unfold xV
 split
 ·rename_i hl
  have h10:r≠10:=fun e=>by
   subst e
   revert hl
   decide +kernel
  split
  ·exact qGr hv h10
  ·rename_i hp
   have h5:r<65536:=by
    rcases Nat.lt_or_ge r 65536 with h | h
    ·exact h
    ·exact absurd (nV hv h) hp
   exact jXl h5
 ·exact jVk r
theorem jMp (s:ByteArray):∀ (f p:Nat),nl (zG s f p)
 | 0,p=>jOt
 | f+1,p=>by
  unfold zG
  split
  ·exact wZ (qEq (nI s p)) (jMp s f _)
  ·exact jOt
theorem kZ {r:Nat} (hv:Lib.validRune (r:Int)=true):(xV r).data.toList.length≤10:=by
 have e:(xV r).data.toList.length=(xV r).size:=by simp
 rw [e]
 unfold xV
 split
 ·split
  ·have:=jKf r; omega
  ·rename_i hp
   have h5:r<65536:=by
    rcases Nat.lt_or_ge r 65536 with h | h
    ·exact h
    ·exact absurd (nV hv h) hp
   have:=jIa h5
   have hz:(jKy r).size=(tP r).length:=by simp [jKy,ByteArray.size]
   have z1:(⟨#[92,120]⟩:ByteArray).size=2:=rfl
   have z2:(⟨#[92,117]⟩:ByteArray).size=2:=rfl
   have z3:(⟨#[48,48]⟩:ByteArray).size=2:=rfl
   have z4:(⟨#[48,48,48,48]⟩:ByteArray).size=4:=rfl
   unfold bQ
   split
   ·rw [ByteArray.size_append,ByteArray.size_append,ByteArray.size_extract]; omega
   ·rw [ByteArray.size_append,ByteArray.size_append,ByteArray.size_extract]; omega
 ·have z1:(⟨#[92]⟩:ByteArray).size=1:=rfl
  have z2:(⟨#[97,98,116,110,118,102,114]⟩:ByteArray).size=7:=rfl
  have z3:(⟨#[]⟩:ByteArray).size=0:=rfl
  unfold yP
  repeat' split
  all_goals first | (show (2:Nat)≤10; decide) | (rw [ByteArray.size_append,ByteArray.size_extract]; omega) | omega
theorem jGa (s:ByteArray):∀ (f p:Nat),p≤s.size→(zG s f p).length≤10*(s.size - p)
 | 0,p,_=>by simp [zG]
 | f+1,p,h=>by
  unfold zG
  split
  ·rename_i hp
   have h1:=kZ (nI s p)
   have h2:=Lib.decode_width_pos s p hp
   have h3:=vU s p hp
   have h4:=jGa s f (p+(Utf8.decode s p).2) (by omega)
   rw [List.length_append]
   omega
  ·simp
theorem jSt:∀ (k:Nat) {s:List UInt8},nl s→nl (Lib.replaceK [39] [39,39] k s)
 | 0,s,h=>h
 | k+1,s,h=>by
  unfold Lib.replaceK
  split
  ·exact h
  ·exact wZ (wZ (jOu (fun x hx=>List.mem_of_mem_take hx) h) (vX (by decide))) (jSt k (jOu (fun x hx=>List.mem_of_mem_drop hx) h))
theorem jWs (s:ByteArray):∀ (f p:Nat),s.size≤p+f→bI fV s f p=true→∀ k,p≤k→k<s.size→(s.get! k).toNat≠10
 | 0,p,h,_,k,h1,h2=>by omega
 | f+1,p,h,ha,k,h1,h2=>by
  unfold bI at ha
  rw [if_pos (show p<s.size by omega)] at ha
  split at ha
  ·rename_i hc
   have hw:=Lib.decode_width_pos s p (by omega)
   by_cases hk:p+(Utf8.decode s p).2≤k
   ·exact jWs s f _ (by omega) ha k hk h2
   ·intro e
    have hd:=Lib.decode_at s p
    have hcs:=Lib.decodeN_conts (s.size - p) (s.get! p).toNat (s.get! (p+1)).toNat (s.get! (p+2)).toNat (s.get! (p+3)).toNat
    rw [←hd] at hcs
    by_cases q:k=p
    ·subst q
     have ha2:=Lib.decodeN_ascii (s.size - k) (s.get! k).toNat (s.get! (k+1)).toNat (s.get! (k+2)).toNat (s.get! (k+3)).toNat (by omega)
     rw [←hd] at ha2
     rw [ha2,e] at hc
     revert hc
     decide
    ·obtain ⟨c1,c2,c3,c4⟩:=hcs
     have:k=p+1∨k=p+2∨k=p+3:=by omega
     rcases this with q | q | q
     ·subst q; have:=(c1 (by omega)).1; omega
     ·subst q; have:=(c2 (by omega)).1; omega
     ·subst q; have:=(c3 (by omega)).1; omega
  ·cases ha
theorem jGb {s:ByteArray} (h:vK s=true):nl s.data.toList:=by
 unfold vK at h
 rw [Bool.and_eq_true] at h
 intro b hb e
 obtain ⟨k,hk,e2⟩:=List.mem_iff_getElem.1 hb
 have hk':k<s.size:=by simpa using hk
 refine jWs s s.size 0 (by omega) h.1 k (Nat.zero_le _) hk' ?_
 have e3:s.get! k=b:=by
  rw [←e2]
  simp [ByteArray.get!,getElem!_pos,hk']
 rw [e3,e]; rfl
theorem jZy (s:ByteArray) (b:Bool):nl (vE s b).data.toList:=by
 unfold vE
 split
 ·rename_i h
  rw [uA,uA]
  refine wZ (wZ (vX (by decide)) ?_) (vX (by decide))
  show nl (Lib.replaceAll s.data.toList [39] [39,39])
  unfold Lib.replaceAll Lib.replace
  split
  ·exact jGb h.2
  ·exact jSt _ (jGb h.2)
 ·show nl (34::(zG s s.size 0++[34]))
  intro x hx
  rcases List.mem_cons.1 hx with rfl | hx
  ·decide
  ·exact wZ (jMp s s.size 0) (vX (by decide)) x hx
theorem jWd (s:ByteArray) (b:Bool):(vE s b).data.toList.length≤10*s.size+4:=by
 unfold vE
 split
 ·have h1:=jCm s
  have e:(aB s).data.toList.length=(aB s).size:=by simp
  rw [uA,uA,List.length_append,List.length_append,e]
  show 1+(aB s).size+1≤_
  omega
 ·show (34::(zG s s.size 0++[34])).length≤_
  have:=jGa s s.size 0 (Nat.zero_le _)
  simp only [List.length_cons,List.length_append,List.length_nil]
  omega
end
end Go.Proofs.YtngfdcnglojcaaaGreatDoor
end
