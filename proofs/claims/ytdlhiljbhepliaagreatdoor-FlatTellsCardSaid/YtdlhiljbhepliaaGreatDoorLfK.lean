/-
All contracts of the table hold of the program.
-/
import Derived.Test.YtdlhiljbhepliaaGreatDoorRk0
import Derived.Test.YtdlhiljbhepliaaGreatDoorRk1
import Derived.Test.YtdlhiljbhepliaaGreatDoorRk2
import Derived.Test.YtdlhiljbhepliaaGreatDoorRk3
import Derived.Test.YtdlhiljbhepliaaGreatDoorRk4
import Derived.Test.YtdlhiljbhepliaaGreatDoorRk5
import Derived.Test.YtdlhiljbhepliaaGreatDoorRk6
import Derived.Test.YtdlhiljbhepliaaGreatDoorRk7
import Derived.Test.YtdlhiljbhepliaaGreatDoorRk8
import Derived.Test.YtdlhiljbhepliaaGreatDoorRk9
import Derived.Test.YtdlhiljbhepliaaGreatDoorRk10
import Derived.Test.YtdlhiljbhepliaaGreatDoorRk11
import Derived.Test.YtdlhiljbhepliaaGreatDoorRk12
import Derived.Test.YtdlhiljbhepliaaGreatDoorGbF
set_option linter.all false
namespace Go.Proofs.YtdlhiljbhepliaaGreatDoor.Ev.Fb
noncomputable section
open Go Ev Rf Lf
set_option maxRecDepth 100000
theorem bA {α:Type} {f:Nat} {x:α}:∀ {l:List (Nat×α)},x∈fQ l f→(f,x)∈l
 | [],h=>by cases h
 | p::r,h=>by
  unfold fQ at h;cases e:Nat.beq p.1 f with
  | true=>
   rw [e] at h;have e':=Nat.eq_of_beq_eq_true e;rcases List.mem_cons.1 h with h | h
   ·subst h; subst e'; exact List.mem_cons_self
   ·exact List.mem_cons_of_mem _ (bA h)
  | false=>rw [e] at h; exact List.mem_cons_of_mem _ (bA h)
theorem psc:PSc PT:=fun f ct h=>by
 have:csT.all (fun p=>jRd p.2)=true:=by decide +kernel
 exact List.all_eq_true.1 this (f,ct) (bA h)
theorem qRw:csT.all (fun p=>isS (jDm Tryz.prog p.1) && !jYk p.1)=true:=by decide +kernel
def TR:List (Nat×CtX)→Prop
 | []=>True
 | p::r=>(∃ (an:Nat→Option Ann) (hs:Nat→Option (List LT)) (kd:Nat→Nat),okF PT LL p.1 (gP p.1) p.2 an hs kd)∧TR r
theorem jZw {f:Nat} {ct:CtX}:∀ {l:List (Nat×CtX)},TR l→(f,ct)∈l→∃ (an:Nat→Option Ann) (hs:Nat→Option (List LT)) (kd:Nat→Nat),okF PT LL f (gP f) ct an hs kd
 | [],_,h=>by cases h
 | p::r,ht,h=>by
  rcases List.mem_cons.1 h with h | h
  ·subst h; exact ht.1
  ·exact jZw ht.2 h
theorem tC {f:Nat} {c:CtX} {a:Nat→Option Ann} {h:Nat→Option (List LT)} {k:Nat→Nat} {l:LN} {r:List (Nat×CtX)} (e:jK f c l a h k) (t:TR r):TR ((f,c)::r):=⟨⟨a,h,k,.inl (jFe e)⟩,t⟩
theorem tC2 {f:Nat} {c:CtX} {a:Nat→Option Ann} {h:Nat→Option (List LT)} {k:Nat→Nat} {l l2:LN} {r:List (Nat×CtX)} (e:jK1 f c l a h k) (e2:jK2 f c l2 a h k) (t:TR r):TR ((f,c)::r):=⟨⟨a,h,k,.inr ⟨jFe e,jFe e2⟩⟩,t⟩
set_option maxHeartbeats 4000000
theorem tZ9:TR csT:=tC w38 (tC w37 (tC w36 (tC w16 (tC qQv (tC w15 (tC qQt (tC qQu (tC w13 (tC qQs (tC w14 (tC w64 (tC w66 (tC w95 (tC w69 (tC w71 (tC qTe (tC w94 (tC qSq (tC qTa (tC w68 (tC qRe (tC qTb (tC qSr (tC w67 (tC w70 (tC w40 (tC w41 (tC w42 (tC qSl (tC qSk (tC qSm (tC qTg (tC w17 (tC qQw (tC qTm (tC qTn (tC w39 (tC qTl (tC w19 (tC w18 (tC w96 (tC qRh (tC qRi (tC qRj (tC w63 (tC w65 (tC qTk (tC qSv (tC qTh (tC qSt (tC qSu (tC qTd (tC qTf (tC qSw (tC qSi (tC qTj (tC w35 (tC w12 (tC qTx (tC qTc (tC qTp (tC w99 (tC qUe (tC qTv (tC qTu (tC qTo (tC qTq (tC qUc (tC qTy (tC qTr (tC qUg (tC qUh (tC qUd (tC qUf (tC qTz (tC qUa (tC qUb (tC qTt (tC qTs (tC qTw (tC qMv (tC qTi (tC qSx (tC w51 (tC w27 (tC w45 (tC w98 (tC w44 (tC qSn (tC w72 (tC w97 (tC w73 (tC qRf (tC w74 (tC qSg (tC w43 (tC qRd (tC w75 (tC qRg (tC qSs (tC qSj (tC qSh (tC qMs (tC qMt (tC qSo (tC qSp (tC qMu (tC qSz (tC qSy (tC w20 (tC qQx (tC2 qUi qUj (tC w29 (tC w53 (tC w24 (tC w25 (tC qQy (tC qQz (tC qRa (tC qRb (tC qRc (tC w52 (tC w26 (tC w54 (tC w81 (tC w82 (tC w57 (tC w80 (tC w55 (tC w56 (tC w28 (tC w30 (tC w8 trivial)))))))))))))))))))))))))))))))))))))))))))))))))))))))))))))))))))))))))))))))))))))))))))))))))))))))))))))))))))))))))))))))))))))
theorem qSe:qOv (jDm Tryz.prog):=fun f ct h=>by
 have hm:=bA (l:=csT) h;have h1:=List.all_eq_true.1 qRw (f,ct) hm;simp only [Bool.and_eq_true,Bool.not_eq_true'] at h1;exact ⟨h1.2,gP f,qPi h1.1,jZw (l:=csT) tZ9 hm⟩
def qPr (l:List TyX) (j:Nat):Bool:=match l[j]? with
 | some (.t _)=>(match j with
  | 0=>false
  | i+1=>(match l[i]? with
   | some .b=>false
   | _=>true))
 | _=>true
theorem htt (T j d:Nat) (h:(ctT T)[j]?=some (.t d)):∃ i,j=i+1∧(ctT T)[i]?≠some .b:=by
 have hc:(List.range (ctT T).length).all (qPr (ctT T))=true:=by
  unfold ctT;split<;>decide
 have hj:j<(ctT T).length:=(List.getElem?_eq_some_iff.1 h).1;have h1:=List.all_eq_true.1 hc j (List.mem_range.2 hj);unfold qPr at h1;rw [h] at h1;cases j with
 | zero=>simp at h1
 | succ i=>exact ⟨i,rfl,fun e=>by simp [e] at h1⟩
end
end Go.Proofs.YtdlhiljbhepliaaGreatDoor.Ev.Fb
