/-
awake, closed: what the evaluator answers, some functions' answers pX.
-/
import Derived.Test.YtngfdcnglojcaaaGreatDoorProg
import Derived.Test.YtngfdcnglojcaaaGreatDoorEvC
import Derived.Test.YtngfdcnglojcaaaGreatDoorEvK
import Derived.Test.YtngfdcnglojcaaaGreatDoorFbF
import Derived.Test.YtngfdcnglojcaaaGreatDoorFbS
import Derived.KernelRfl
section
set_option linter.all false
namespace Go.Proofs.YtngfdcnglojcaaaGreatDoor.Ev.Fb
noncomputable section
open Go Ev
def qHn:Nat→List AV→Mem→Option AV:=fun f l σ=>match f with
 | 68=>(match l with
  | [.s n v,.b true]=>bif Nat.beq n 1&&(Nat.beq v 97||Nat.beq v 98) then some (.b true) else bif Nat.beq n 0 then some (.b false) else none
  | _=>none)
 | 46=>(match l with
  | [x,.s 2 8236]=>(match jMd σ x with
   | some l=>bif Nat.ble (gI l) MX&&Nat.ble l.length NB then some (.s (zS l).1 (zS l).2) else none
   | none=>none)
  | _=>none)
 | _=>none
def isT:Option (AV×Mem)→Bool
 | some (.b true,_)=>true
 | _=>false
theorem aw:isT (evF (jBh Tryz.prog) qHn 1000 60 4 [] bY)=true:=by decide +kernel
end
end Go.Proofs.YtngfdcnglojcaaaGreatDoor.Ev.Fb
end
section
set_option linter.all false
namespace Go.Proofs.YtngfdcnglojcaaaGreatDoor.Ev.Fb
noncomputable section
open Go Ev Go.RowKit
theorem qMy:vY (txB (1,97)) true=true:=by decide +kernel
theorem qMz:vY (txB (1,98)) true=true:=by decide +kernel
theorem qMx:vY (txB (0,0)) true=false:=by decide +kernel
theorem oV {α:Type} {b:Bool} {x:α} {o:Option α} {y:α} (h:(bif b then some x else o)=some y):(b=true∧y=x)∨(b=false∧o=some y):=by
 cases b with
 | true=>exact .inl ⟨rfl,(Option.some.inj h).symm⟩
 | false=>exact .inr ⟨rfl,h⟩
theorem qEg {μ:Mu} (hk:KnM μ):jJh Tryz.prog μ qHn:=by
 intro f args σ x h B w0 j w vs hr hl
 unfold qHn at h
 split at h
 ·split at h
  ·rename_i n v
   refine ⟨⟨Tryz.f68,Tryz.func68,by kernel_rfl,by kernel_rfl⟩,?_⟩
   refine qFw hk _ σ x ?_ B w0 j w vs hr hl
   obtain ⟨_,_,_,⟨s,_,h1,h2⟩,_⟩:=hl
   simp only [yE]
   rcases oV h with ⟨q,rfl⟩ | ⟨_,h⟩
   ·simp only [Bool.and_eq_true,Bool.or_eq_true,Nat.beq_eq] at q
    obtain ⟨rfl,q⟩:=q
    rcases q with rfl | rfl
    ·rw [if_pos ⟨by decide,by decide⟩]
     show some (AV.b (vY (txB (1,97)) true))=_
     rw [qMy]
    ·rw [if_pos ⟨by decide,by decide⟩]
     show some (AV.b (vY (txB (1,98)) true))=_
     rw [qMz]
   ·rcases oV h with ⟨q,rfl⟩ | ⟨_,h⟩
    ·obtain rfl:=Nat.eq_of_beq_eq_true q
     have hv:v=0:=by
      have h3:s.data.toList=[]:=List.eq_nil_of_length_eq_zero (by rw [show s.data.toList.length=s.size by simp]; exact h1)
      rw [←h2,h3]; rfl
     subst hv
     rw [if_pos ⟨by decide,by decide⟩]
     show some (AV.b (vY (txB (0,0)) true))=_
     rw [qMx]
    ·cases h
  ·cases h
 ·split at h
  ·rename_i y
   split at h
   ·rename_i l hl2
    refine ⟨⟨Tryz.f46,Tryz.func46,by kernel_rfl,by kernel_rfl⟩,?_⟩
    refine qFv _ σ x ?_ B w0 j w vs hr hl
    simp only [yE,hl2]
    rcases oV h with ⟨q,rfl⟩ | ⟨_,h⟩
    ·rw [Bool.and_eq_true] at q
     rw [if_pos ⟨Nat.le_of_ble_eq_true q.1,Nat.le_of_ble_eq_true q.2⟩]
    ·cases h
   ·cases h
  ·cases h
 ·cases h
theorem mix:Tryz.prog.follows .mixedOrders=true:=by kernel_rfl
theorem jYu {o:Option (AV×Mem)} (h:isT o=true):∃ σ,o=some (.b true,σ):=by
 unfold isT at h
 split at h
 ·exact ⟨_,rfl⟩
 ·cases h
theorem qHo {μ:Mu} (hμ:yF μ) (hk:KnM μ):jJh Tryz.prog μ (yE scS):=by
 intro f args σ x h B w0 j w vs hr hl
 have h0:=h
 unfold yE at h
 split at h
 ·split at h
  ·cases h
   cases hl
   obtain ⟨σ1,hs⟩:=jYu aw
   refine ⟨⟨Tryz.f4,Tryz.func4,by kernel_rfl,by kernel_rfl⟩,?_⟩
   refine (qAf hμ (qEg hk) mix hs w hr.heldW [] rfl).mono ?_
   rintro e w' ⟨j',v,rfl,hv,hr⟩
   refine ⟨v,rfl,hv,hr.below.to_below⟩
  ·cases h
 ·exact ⟨⟨Tryz.f44,Tryz.func44,by kernel_rfl,by kernel_rfl⟩,qLs hk _ σ x h0 B w0 j w vs hr hl⟩
 ·exact ⟨⟨Tryz.f68,Tryz.func68,by kernel_rfl,by kernel_rfl⟩,qFw hk _ σ x h0 B w0 j w vs hr hl⟩
 ·exact ⟨⟨Tryz.f70,Tryz.func70,by kernel_rfl,by kernel_rfl⟩,qLt hk _ σ x h0 B w0 j w vs hr hl⟩
 ·exact ⟨⟨Tryz.f71,Tryz.func71,by kernel_rfl,by kernel_rfl⟩,qLu hk _ σ x h0 B w0 j w vs hr hl⟩
 ·exact ⟨⟨Tryz.f72,Tryz.func72,by kernel_rfl,by kernel_rfl⟩,qLv hk _ σ x h0 B w0 j w vs hr hl⟩
 ·exact ⟨⟨Tryz.f46,Tryz.func46,by kernel_rfl,by kernel_rfl⟩,qFv _ σ x h0 B w0 j w vs hr hl⟩
 ·cases h
end
end Go.Proofs.YtngfdcnglojcaaaGreatDoor.Ev.Fb
end
