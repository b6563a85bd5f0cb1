/-
All contracts of the table hold of the program.
-/
import Derived.Test.YtngfdcnglojcaaaGreatDoorRk0
import Derived.Test.YtngfdcnglojcaaaGreatDoorRk1
import Derived.Test.YtngfdcnglojcaaaGreatDoorRk2
import Derived.Test.YtngfdcnglojcaaaGreatDoorRk3
import Derived.Test.YtngfdcnglojcaaaGreatDoorRk4
import Derived.Test.YtngfdcnglojcaaaGreatDoorRk5
import Derived.Test.YtngfdcnglojcaaaGreatDoorRk6
import Derived.Test.YtngfdcnglojcaaaGreatDoorRk7
import Derived.Test.YtngfdcnglojcaaaGreatDoorRk8
import Derived.Test.YtngfdcnglojcaaaGreatDoorRk9
import Derived.Test.YtngfdcnglojcaaaGreatDoorRk10
import Derived.Test.YtngfdcnglojcaaaGreatDoorRk11
import Derived.Test.YtngfdcnglojcaaaGreatDoorRk12
import Derived.Test.YtngfdcnglojcaaaGreatDoorFbF
set_option linter.all false
namespace Go.Proofs.YtngfdcnglojcaaaGreatDoor.Ev.Fb
noncomputable section
open Go Ev Rf Lf
set_option maxRecDepth 100000
theorem fN {α:Type} {f:Nat} {x:α}:∀ {l:List (Nat×α)},x∈kH l f→(f,x)∈l
 | [],h=>by cases h
 | p::r,h=>by
  unfold kH at h
  cases e:Nat.beq p.1 f with
  | true=>
   rw [e] at h
   have e':=Nat.eq_of_beq_eq_true e
   rcases List.mem_cons.1 h with h | h
   ·subst h; subst e'; exact List.mem_cons_self
   ·exact List.mem_cons_of_mem _ (fN h)
  | false=>rw [e] at h; exact List.mem_cons_of_mem _ (fN h)
theorem psc:PSc PT:=fun f ct h=>by
 have:csT.all (fun p=>jOc p.2)=true:=by decide +kernel
 exact List.all_eq_true.1 this (f,ct) (fN h)
theorem qMw:csT.all (fun p=>isS (jBh Tryz.prog p.1) && !jVh p.1)=true:=by decide +kernel
def TR:List (Nat×CtX)→Prop
 | []=>True
 | p::r=>(∃ (an:Nat→Option Ann) (hs:Nat→Option (List LT)) (kd:Nat→Nat),okF PT LL p.1 (gP p.1) p.2 an hs kd)∧TR r
theorem jWm {f:Nat} {ct:CtX}:∀ {l:List (Nat×CtX)},TR l→(f,ct)∈l→∃ (an:Nat→Option Ann) (hs:Nat→Option (List LT)) (kd:Nat→Nat),okF PT LL f (gP f) ct an hs kd
 | [],_,h=>by cases h
 | p::r,ht,h=>by
  rcases List.mem_cons.1 h with h | h
  ·subst h; exact ht.1
  ·exact jWm ht.2 h
set_option maxHeartbeats 4000000
theorem tZ9:TR csT:=⟨⟨a0,h0,k0,.inl (jA k35_ok)⟩,⟨⟨a0,h0,k0,.inl (jA k34_ok)⟩,⟨⟨a0,h0,k0,.inl (jA k33_ok)⟩,⟨⟨a16,h0,k0,.inl (jA k16_ok)⟩,⟨⟨a16_1,h0,k0,.inl (jA k16_1_ok)⟩,⟨⟨a15,h0,k0,.inl (jA k15_ok)⟩,⟨⟨a15_1,h0,k0,.inl (jA k15_1_ok)⟩,⟨⟨a15_2,h0,k0,.inl (jA k15_2_ok)⟩,⟨⟨a0,h0,k0,.inl (jA k13_ok)⟩,⟨⟨a0,h0,k0,.inl (jA k13_1_ok)⟩,⟨⟨a0,h0,k0,.inl (jA k14_ok)⟩,⟨⟨a56,h0,k0,.inl (jA k56_ok)⟩,⟨⟨a58,h0,k0,.inl (jA k58_ok)⟩,⟨⟨a0,h0,k0,.inl (jA k83_ok)⟩,⟨⟨a0,h0,k0,.inl (jA k61_ok)⟩,⟨⟨a0,h0,k0,.inl (jA k63_ok)⟩,⟨⟨a0,h0,k0,.inl (jA k180_ok)⟩,⟨⟨a0,h0,k0,.inl (jA k82_ok)⟩,⟨⟨a114,h0,k0,.inl (jA k114_ok)⟩,⟨⟨a0,h0,k0,.inl (jA k152_ok)⟩,⟨⟨a60,h0,k0,.inl (jA k60_ok)⟩,⟨⟨a60_1,h0,k0,.inl (jA k60_1_ok)⟩,⟨⟨a153,h0,k0,.inl (jA k153_ok)⟩,⟨⟨a115,h0,k0,.inl (jA k115_ok)⟩,⟨⟨a59,h0,k0,.inl (jA k59_ok)⟩,⟨⟨a62,h0,k0,.inl (jA k62_ok)⟩,⟨⟨a0,h0,k0,.inl (jA k37_ok)⟩,⟨⟨a0,h0,k0,.inl (jA k38_ok)⟩,⟨⟨a39,h0,k0,.inl (jA k39_ok)⟩,⟨⟨a0,h0,k0,.inl (jA k198_ok)⟩,⟨⟨a0,h0,k0,.inl (jA k199_ok)⟩,⟨⟨a0,h0,k0,.inl (jA k177_ok)⟩,⟨⟨a176,h0,k0,.inl (jA k176_ok)⟩,⟨⟨a17,h0,k0,.inl (jA k17_ok)⟩,⟨⟨a17_1,h0,k0,.inl (jA k17_1_ok)⟩,⟨⟨a184,h0,k0,.inl (jA k184_ok)⟩,⟨⟨a185,h0,k0,.inl (jA k185_ok)⟩,⟨⟨a36,h0,k0,.inl (jA k36_ok)⟩,⟨⟨a183,h0,k0,.inl (jA k183_ok)⟩,⟨⟨a19,h0,k0,.inl (jA k19_ok)⟩,⟨⟨a18,h0,k0,.inl (jA k18_ok)⟩,⟨⟨a84,h0,k0,.inl (jA k84_ok)⟩,⟨⟨a84_1,h0,k0,.inl (jA k84_1_ok)⟩,⟨⟨a84_2,h0,k0,.inl (jA k84_2_ok)⟩,⟨⟨a84_3,h0,k0,.inl (jA k84_3_ok)⟩,⟨⟨a55,h0,k0,.inl (jA k55_ok)⟩,⟨⟨a0,h0,k0,.inl (jA k57_ok)⟩,⟨⟨a0,h0,k0,.inl (jA k182_ok)⟩,⟨⟨a0,h0,k0,.inl (jA k145_ok)⟩,⟨⟨a0,h0,k0,.inl (jA k178_ok)⟩,⟨⟨a0,h0,k0,.inl (jA k148_ok)⟩,⟨⟨a149,h0,k0,.inl (jA k149_ok)⟩,⟨⟨a155,h0,k155,.inl (jA k155_ok)⟩,⟨⟨a175,h0,k0,.inl (jA k175_ok)⟩,⟨⟨a146,h0,k0,.inl (jA k146_ok)⟩,⟨⟨a90,h0,k0,.inl (jA k90_ok)⟩,⟨⟨a181,h181,k181,.inl (jA k181_ok)⟩,⟨⟨a32,h0,k32,.inl (jA k32_ok)⟩,⟨⟨a0,h0,k0,.inl (jA k12_ok)⟩,⟨⟨a0,h0,k0,.inl (jA k215_ok)⟩,⟨⟨a154,h0,k154,.inl (jA k154_ok)⟩,⟨⟨a0,h0,k0,.inl (jA k201_ok)⟩,⟨⟨a0,h0,k0,.inl (jA k87_ok)⟩,⟨⟨a222,h0,k0,.inl (jA k222_ok)⟩,⟨⟨a0,h0,k0,.inl (jA k207_ok)⟩,⟨⟨a0,h0,k0,.inl (jA k206_ok)⟩,⟨⟨a0,h0,k0,.inl (jA k200_ok)⟩,⟨⟨a0,h0,k0,.inl (jA k202_ok)⟩,⟨⟨a0,h0,k0,.inl (jA k220_ok)⟩,⟨⟨a0,h0,k0,.inl (jA k216_ok)⟩,⟨⟨a0,h0,k0,.inl (jA k203_ok)⟩,⟨⟨a0,h0,k0,.inl (jA k226_ok)⟩,⟨⟨a0,h0,k0,.inl (jA k227_ok)⟩,⟨⟨a0,h0,k0,.inl (jA k221_ok)⟩,⟨⟨a0,h0,k0,.inl (jA k223_ok)⟩,⟨⟨a0,h0,k0,.inl (jA k217_ok)⟩,⟨⟨a0,h0,k0,.inl (jA k218_ok)⟩,⟨⟨a0,h0,k0,.inl (jA k219_ok)⟩,⟨⟨a0,h0,k0,.inl (jA k205_ok)⟩,⟨⟨a0,h0,k0,.inl (jA k204_ok)⟩,⟨⟨a0,h0,k0,.inl (jA k208_ok)⟩,⟨⟨a0,h0,k0,.inl (jA k208_1_ok)⟩,⟨⟨a179,h0,k179,.inl (jA k179_ok)⟩,⟨⟨a0,h0,k0,.inl (jA k147_ok)⟩,⟨⟨a0,h0,k0,.inl (jA k48_ok)⟩,⟨⟨a0,h0,k0,.inl (jA k28_ok)⟩,⟨⟨a0,h0,k0,.inl (jA k42_ok)⟩,⟨⟨a0,h0,k0,.inl (jA k86_ok)⟩,⟨⟨a0,h0,k0,.inl (jA k41_ok)⟩,⟨⟨a0,h0,k0,.inl (jA k111_ok)⟩,⟨⟨a0,h0,k0,.inl (jA k64_ok)⟩,⟨⟨a0,h0,k0,.inl (jA k85_ok)⟩,⟨⟨a0,h0,k0,.inl (jA k65_ok)⟩,⟨⟨a0,h0,k0,.inl (jA k65_1_ok)⟩,⟨⟨a0,h0,k0,.inl (jA k66_ok)⟩,⟨⟨a0,h0,k0,.inl (jA k88_ok)⟩,⟨⟨a0,h0,k0,.inl (jA k40_ok)⟩,⟨⟨a0,h40_1,k0,.inl (jA k40_1_ok)⟩,⟨⟨a67,h0,k67,.inl (jA k67_ok)⟩,⟨⟨a67_1,h0,k67_1,.inl (jA k67_1_ok)⟩,⟨⟨a0,h0,k0,.inl (jA k116_ok)⟩,⟨⟨a0,h0,k0,.inl (jA k91_ok)⟩,⟨⟨a0,h0,k0,.inl (jA k89_ok)⟩,⟨⟨a0,h0,k0,.inl (jA k89_1_ok)⟩,⟨⟨a0,h0,k0,.inl (jA k89_2_ok)⟩,⟨⟨a112,h0,k112,.inl (jA k112_ok)⟩,⟨⟨a113,h0,k113,.inl (jA k113_ok)⟩,⟨⟨a113_1,h0,k113_1,.inl (jA k113_1_ok)⟩,⟨⟨a0,h0,k0,.inl (jA k151_ok)⟩,⟨⟨a0,h0,k0,.inl (jA k150_ok)⟩,⟨⟨a0,h0,k0,.inl (jA k20_ok)⟩,⟨⟨a0,h0,k0,.inl (jA k20_1_ok)⟩,⟨⟨a5,h0,k5,.inr ⟨jA k5_p1_ok,jA k5_p2_ok⟩⟩,⟨⟨a0,h0,k30,.inl (jA k30_ok)⟩,⟨⟨a50,h0,k0,.inl (jA k50_ok)⟩,⟨⟨a0,h0,k0,.inl (jA k25_ok)⟩,⟨⟨a26,h0,k0,.inl (jA k26_ok)⟩,⟨⟨a26_1,h0,k0,.inl (jA k26_1_ok)⟩,⟨⟨a26_2,h0,k0,.inl (jA k26_2_ok)⟩,⟨⟨a26_3,h0,k0,.inl (jA k26_3_ok)⟩,⟨⟨a26_4,h0,k0,.inl (jA k26_4_ok)⟩,⟨⟨a26_5,h0,k0,.inl (jA k26_5_ok)⟩,⟨⟨a0,h0,k0,.inl (jA k49_ok)⟩,⟨⟨a0,h0,k0,.inl (jA k27_ok)⟩,⟨⟨a0,h0,k51,.inl (jA k51_ok)⟩,⟨⟨a0,h0,k0,.inl (jA k80_ok)⟩,⟨⟨a0,h0,k81,.inl (jA k81_ok)⟩,⟨⟨a0,h0,k54,.inl (jA k54_ok)⟩,⟨⟨a0,h0,k0,.inl (jA k79_ok)⟩,⟨⟨a52,h0,k52,.inl (jA k52_ok)⟩,⟨⟨a53,h53,k0,.inl (jA k53_ok)⟩,⟨⟨a0,h0,k0,.inl (jA k29_ok)⟩,⟨⟨a31,h0,k0,.inl (jA k31_ok)⟩,⟨⟨a10,h0,k0,.inl (jA k10_ok)⟩,trivial⟩⟩⟩⟩⟩⟩⟩⟩⟩⟩⟩⟩⟩⟩⟩⟩⟩⟩⟩⟩⟩⟩⟩⟩⟩⟩⟩⟩⟩⟩⟩⟩⟩⟩⟩⟩⟩⟩⟩⟩⟩⟩⟩⟩⟩⟩⟩⟩⟩⟩⟩⟩⟩⟩⟩⟩⟩⟩⟩⟩⟩⟩⟩⟩⟩⟩⟩⟩⟩⟩⟩⟩⟩⟩⟩⟩⟩⟩⟩⟩⟩⟩⟩⟩⟩⟩⟩⟩⟩⟩⟩⟩⟩⟩⟩⟩⟩⟩⟩⟩⟩⟩⟩⟩⟩⟩⟩⟩⟩⟩⟩⟩⟩⟩⟩⟩⟩⟩⟩⟩⟩⟩⟩⟩⟩⟩⟩⟩⟩⟩⟩⟩⟩⟩
theorem qNd:qKh (jBh Tryz.prog):=fun f ct h=>by
 have hm:=fN (l:=csT) h
 have h1:=List.all_eq_true.1 qMw (f,ct) hm
 simp only [Bool.and_eq_true,Bool.not_eq_true'] at h1
 exact ⟨h1.2,gP f,qLe h1.1,jWm (l:=csT) tZ9 hm⟩
def qLp (l:List TyX) (j:Nat):Bool:=match l[j]? with
 | some (.t _)=>(match j with
  | 0=>false
  | i+1=>(match l[i]? with
   | some .b=>false
   | _=>true))
 | _=>true
theorem htt (T j d:Nat) (h:(ctT T)[j]?=some (.t d)):∃ i,j=i+1∧(ctT T)[i]?≠some .b:=by
 have hc:(List.range (ctT T).length).all (qLp (ctT T))=true:=by
  unfold ctT
  split<;>decide
 have hj:j<(ctT T).length:=(List.getElem?_eq_some_iff.1 h).1
 have h1:=List.all_eq_true.1 hc j (List.mem_range.2 hj)
 unfold qLp at h1
 rw [h] at h1
 cases j with
 | zero=>simp at h1
 | succ i=>exact ⟨i,rfl,fun e=>by simp [e] at h1⟩
end
end Go.Proofs.YtngfdcnglojcaaaGreatDoor.Ev.Fb
