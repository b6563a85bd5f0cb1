/-
awake, closed: what the evaluator answers, some functions' answers tH.
-/
import Derived.Test.YtdlhiljbhepliaaGreatDoorEvK
import Derived.Test.YtdlhiljbhepliaaGreatDoorFbS
import Derived.KernelRfl
namespace Go.Proofs.YtdlhiljbhepliaaGreatDoor.Ev.Fb
noncomputable section
set_option linter.all false
open Go Ev
def qLx:Nat→List AV→Mem→Option AV:=fun f l σ=>match f with
 | 83=>(match l with
  | [.s n v,.b true]=>bif Nat.beq n 1&&(Nat.beq v 97||Nat.beq v 98) then some (.b true) else bif Nat.beq n 0 then some (.b false) else none
  | _=>none)
 | 61=>(match l with
  | [x,.s 2 8236]=>(match jOy σ x with
   | some l=>bif Nat.ble (kP l) MX&&Nat.ble l.length NB then some (.s (jM l).1 (jM l).2) else none
   | none=>none)
  | _=>none)
 | _=>none
def isT:Option (AV×Mem)→Bool
 | some (.b true,_)=>true
 | _=>false
theorem aw:isT (evF (jDm Tryz.prog) qLx 1000 60 4 [] mP)=true:=by decide +kernel
end
noncomputable section
set_option linter.all false
open Go Ev Go.RowKit
theorem qRz:vA (txB (1,97)) true=true:=by decide +kernel
theorem qSa:vA (txB (1,98)) true=true:=by decide +kernel
theorem qRy:vA (txB (0,0)) true=false:=by decide +kernel
theorem jCh {α:Type} {b:Bool} {x:α} {o:Option α} {y:α} (h:(bif b then some x else o)=some y):(b=true∧y=x)∨(b=false∧o=some y):=by
 cases b with
 | true=>exact .inl ⟨rfl,(Option.some.inj h).symm⟩
 | false=>exact .inr ⟨rfl,h⟩
theorem qIn {μ:Mu} (hk:KnM μ):jLx Tryz.prog μ qLx:=by
 intro f args σ x h B w0 j w vs hr hl;unfold qLx at h;split at h
 ·split at h
  ·rename_i n v;refine ⟨⟨Tryz.f83,Tryz.func83,by kernel_rfl,by kernel_rfl⟩,?_⟩
   refine qKj hk _ σ x ?_ B w0 j w vs hr hl;obtain ⟨_,_,_,⟨s,_,h1,h2⟩,_⟩:=hl;simp only [xB];rcases jCh h with ⟨q,rfl⟩ | ⟨_,h⟩
   ·simp only [Bool.and_eq_true,Bool.or_eq_true,Nat.beq_eq] at q;obtain ⟨rfl,q⟩:=q;rcases q with rfl | rfl
    ·rw [if_pos ⟨by decide,by decide⟩]
     show some (AV.b (vA (txB (1,97)) true))=_;rw [qRz]
    ·rw [if_pos ⟨by decide,by decide⟩]
     show some (AV.b (vA (txB (1,98)) true))=_;rw [qSa]
   ·rcases jCh h with ⟨q,rfl⟩ | ⟨_,h⟩
    ·obtain rfl:=Nat.eq_of_beq_eq_true q;have hv:v=0:=by
      have h3:s.data.toList=[]:=List.eq_nil_of_length_eq_zero (by rw [show s.data.toList.length=s.size by simp]; exact h1)
      rw [←h2,h3]; rfl
     subst hv;rw [if_pos ⟨by decide,by decide⟩]
     show some (AV.b (vA (txB (0,0)) true))=_;rw [qRy]
    ·cases h
  ·cases h
 ·split at h
  ·rename_i y;split at h
   ·rename_i l hl2;refine ⟨⟨Tryz.f61,Tryz.func61,by kernel_rfl,by kernel_rfl⟩,?_⟩
    refine qKi _ σ x ?_ B w0 j w vs hr hl;simp only [xB,hl2];rcases jCh h with ⟨q,rfl⟩ | ⟨_,h⟩
    ·rw [Bool.and_eq_true] at q;rw [if_pos ⟨Nat.le_of_ble_eq_true q.1,Nat.le_of_ble_eq_true q.2⟩]
    ·cases h
   ·cases h
  ·cases h
 ·cases h
theorem mix:Tryz.prog.follows .mixedOrders=true:=by kernel_rfl
theorem qCj {o:Option (AV×Mem)} (h:isT o=true):∃ σ,o=some (.b true,σ):=by
 unfold isT at h;split at h
 ·exact ⟨_,rfl⟩
 ·cases h
theorem qLy {μ:Mu} (hμ:uQ μ) (hk:KnM μ):jLx Tryz.prog μ (xB scS):=by
 intro f args σ x h B w0 j w vs hr hl;have h0:=h;unfold xB at h;split at h
 ·split at h
  ·cases h;cases hl;obtain ⟨σ1,hs⟩:=qCj aw;refine ⟨⟨Tryz.f4,Tryz.func4,by kernel_rfl,by kernel_rfl⟩,?_⟩
   refine (qDx hμ (qIn hk) mix hs w hr.heldW [] rfl).mono ?_;rintro e w' ⟨j',v,rfl,hv,hr⟩;refine ⟨v,rfl,hv,hr.below.to_below⟩
  ·cases h
 ·exact ⟨⟨Tryz.f59,Tryz.func59,by kernel_rfl,by kernel_rfl⟩,qPy hk _ σ x h0 B w0 j w vs hr hl⟩
 ·exact ⟨⟨Tryz.f49,Tryz.func49,by kernel_rfl,by kernel_rfl⟩,qPx hk _ σ x h0 B w0 j w vs hr hl⟩
 ·exact ⟨⟨Tryz.f83,Tryz.func83,by kernel_rfl,by kernel_rfl⟩,qKj hk _ σ x h0 B w0 j w vs hr hl⟩
 ·exact ⟨⟨Tryz.f104,Tryz.func104,by kernel_rfl,by kernel_rfl⟩,qLv hk _ σ x h0 B w0 j w vs hr hl⟩
 ·exact ⟨⟨Tryz.f85,Tryz.func85,by kernel_rfl,by kernel_rfl⟩,qQa hk _ σ x h0 B w0 j w vs hr hl⟩
 ·exact ⟨⟨Tryz.f106,Tryz.func106,by kernel_rfl,by kernel_rfl⟩,qLw hk _ σ x h0 B w0 j w vs hr hl⟩
 ·exact ⟨⟨Tryz.f86,Tryz.func86,by kernel_rfl,by kernel_rfl⟩,qQb hk _ σ x h0 B w0 j w vs hr hl⟩
 ·exact ⟨⟨Tryz.f48,Tryz.func48,by kernel_rfl,by kernel_rfl⟩,qPw hk _ σ x h0 B w0 j w vs hr hl⟩
 ·exact ⟨⟨Tryz.f87,Tryz.func87,by kernel_rfl,by kernel_rfl⟩,qQc hk _ σ x h0 B w0 j w vs hr hl⟩
 ·exact ⟨⟨Tryz.f77,Tryz.func77,by kernel_rfl,by kernel_rfl⟩,qPz hk _ σ x h0 B w0 j w vs hr hl⟩
 ·exact ⟨⟨Tryz.f61,Tryz.func61,by kernel_rfl,by kernel_rfl⟩,qKi _ σ x h0 B w0 j w vs hr hl⟩
 ·cases h
end
end Go.Proofs.YtdlhiljbhepliaaGreatDoor.Ev.Fb
