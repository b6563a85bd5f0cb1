/-
Contracts of the document's own functions: White, Ends, Flow, Indicator of bosketref1; Begins, Part of bosketref11.
-/
import Derived.Test.YtdlhiljbhepliaaGreatDoorFtP
import Derived.Laws.BitsAllLaws
import Derived.Laws.BitsLemmas
import Derived.Test.YtdlhiljbhepliaaGreatDoorMem
namespace Go.Proofs.YtdlhiljbhepliaaGreatDoor
noncomputable section
set_option linter.all false
open Go.RowKit
theorem rR (s:ByteArray) (k:Nat) (h:k<s.size):s.data.toList.drop k=s[k]::s.data.toList.drop (k+1):=
 List.drop_eq_getElem_cons (l:=s.data.toList) (by simpa using h)
def jGp (l:List UInt8) (c:Int):Bool:=l.any fun b=>(b.toNat:Int)==c
theorem jNr (s:ByteArray) (c:Int) (k:Nat) (h:k<s.size):jGp (s.data.toList.drop k) c=((s[k].toNat:Int)==c||jGp (s.data.toList.drop (k+1)) c):=by
 rw [rR s k h,jGp,List.any_cons]; rfl
set_option maxHeartbeats 400000 in
theorem jEy (s:ByteArray) (c:Int) (w:World) (hs:s.size≤140737488355328) :
  Calls Tryz.prog 96 #[.string s,.int .u8 c] w fun e w'=>e = .returned (.bool (jGp s.data.toList c))∧w=w':=by
 go_enter Tryz.func96,Tryz.ntmps96;go_wp2;go_loop [5] (fun n=>∃ k:Nat,k≤s.size∧n = .int .i64 k∧Hid (jGp s.data.toList c=jGp (s.data.toList.drop k) c)) (fun n=>s.size - (intOf n).toNat)
 case atStart=>exact ⟨0,Nat.zero_le _,rfl,Lib.hid rfl⟩
 case round=>
  obtain ⟨k,hk,rfl,HR⟩:=hrel;by_cases hlt:k<s.size
  ·cases hc:((s[k].toNat:Int)==c)
   ·go_wp2;refine ⟨⟨k+1,by omega,by go_num,Lib.hid (by rw [HR.out,jNr s c k hlt,hc]; rfl)⟩,by simp [intOf]; omega⟩
   ·have HE:Hid (jGp s.data.toList c=true):=Lib.hid (by rw [HR.out,jNr s c k hlt,hc]; rfl)
    go_wp2;go_ret;exact ⟨jC HE.out.symm,rfl⟩
  ·have HE:Hid (jGp s.data.toList c=false):=Lib.hid (by rw [HR.out,List.drop_eq_nil_of_le (by simpa using hlt)]; rfl)
   go_wp2;go_ret;exact ⟨jC HE.out.symm,rfl⟩
set_option maxHeartbeats 400000 in
theorem zC (c:Int) (w:World) :
  Calls Tryz.prog 69 #[.int .u8 c] w fun e w'=>e = .returned (.bool (zB c))∧w=w':=by
 go_enter Tryz.func69,Tryz.ntmps69;go_wp2_with (go_at_call 96; refine (jEy _ _ _ (by decide)).mono ?_; rintro e w' ⟨rfl,rfl⟩)
 go_ret;exact ⟨jC (by rw [Bool.eq_iff_iff]; simp [jGp,zB]; omega),rfl⟩
set_option maxHeartbeats 400000 in
theorem gK (c:Int) (w:World) :
  Calls Tryz.prog 180 #[.int .u8 c] w fun e w'=>e = .returned (.bool (jRn c))∧w=w':=by
 go_enter Tryz.func180,Tryz.ntmps180;go_wp2_with (go_at_call 96; refine (jEy _ _ _ (by decide)).mono ?_; rintro e w' ⟨rfl,rfl⟩)
 go_ret;exact ⟨jC (by rw [Bool.eq_iff_iff]; simp [jGp,jRn,zB]; omega),rfl⟩
set_option maxHeartbeats 400000 in
theorem jQ (c:Int) (w:World) :
  Calls Tryz.prog 38 #[.int .u8 c] w fun e w'=>e = .returned (.bool (qP c))∧w=w':=by
 go_enter Tryz.func38,Tryz.ntmps38;go_wp2
 all_goals go_ret
 all_goals exact ⟨jC (by simp [qP, *]),rfl⟩
set_option maxHeartbeats 400000 in
theorem jSi (s:ByteArray) (k:Nat) (w:World) (hs:s.size≤140737488355328) (hk:k<s.size) :
  Calls Tryz.prog 36 #[.string s,.int .i64 k] w fun e w'=>e = .returned (.bool (uI s k))∧w=w':=by
 have d1:decide ((k:Int)<0)=false:=by simp
 have d2:decide (s.size≤k)=false:=by simp; omega
 have HE:Hid (uI s k=(qP (s[k].toNat:Int)||(s[k].toNat:Int)==10)):=Lib.hid (by rw [uI,d2,xU s k hk]; rfl)
 cases hw:qP (s[k].toNat:Int)
 ·go_enter Tryz.func36,Tryz.ntmps36;go_wp2_with (go_at_call 38; refine (jQ _ _).mono ?_; rintro e w' ⟨rfl,rfl⟩; rw [hw]);go_ret;exact ⟨jC (by rw [HE.out,hw]; rfl),rfl⟩
 ·go_enter Tryz.func36,Tryz.ntmps36;go_wp2_with (go_at_call 38; refine (jQ _ _).mono ?_; rintro e w' ⟨rfl,rfl⟩; rw [hw]);go_ret;exact ⟨jC (by rw [HE.out,hw]; rfl),rfl⟩
set_option maxHeartbeats 400000 in
theorem yN (s:ByteArray) (a:Int) (k:Nat) (w:World) (hs:s.size≤140737488355328) (ha:a=k) :
  Calls Tryz.prog 36 #[.string s,.int .i64 a] w fun e w'=>e = .returned (.bool (uI s k))∧w=w':=by
 subst ha;by_cases hk:k<s.size
 ·exact jSi s k w hs hk
 ·have d1:decide ((k:Int)<0)=false:=by simp
  have d2:decide (s.size≤k)=true:=by simp; omega
  go_enter Tryz.func36,Tryz.ntmps36;go_wp2;go_ret;have HE:Hid (uI s k=true):=Lib.hid (by rw [uI,d2]; rfl)
  exact ⟨jC HE.out.symm,rfl⟩
theorem oQ (s:ByteArray) (a:Int) (w:World) (hs:s.size≤140737488355328) (ha:0≤a) :
  Calls Tryz.prog 36 #[.string s,.int .i64 a] w fun e w'=>e = .returned (.bool (uI s a.toNat))∧w=w':=yN s a a.toNat w hs (by omega)
set_option maxRecDepth 100000 in
set_option maxHeartbeats 1000000 in
theorem jGq (s:ByteArray) (flow:Bool) (w:World) (hs:s.size≤140737488355328) :
  Calls Tryz.prog 138 #[.string s,.int .i64 0,.bool flow] w fun e w'=>e = .returned (.bool (xC s flow))∧w=w':=by
 cases he:uI s 0
 ·have hlt:=eB he;have HB:Hid (bt s 0=(s[0].toNat:Int)):=Lib.hid (xU s 0 hlt);cases hi:jRn (s[0].toNat:Int)
  ·have HS:Hid (xC s flow=true):=Lib.hid (by
    have hg:pO (s[0].toNat:Int)=false:=by simp [jRn] at hi; simp [pO]; omega
    simp [xC,he,HB.out,hg,hi])
   go_enter Tryz.func138,Tryz.ntmps138;go_wp2_with (first | (go_at_call 36; refine (yN s 0 0 _ hs rfl).mono ?_; rintro e w' ⟨rfl,rfl⟩; rw [he]) | (go_at_call 180; refine (gK _ _).mono ?_; rintro e w' ⟨rfl,rfl⟩; rw [hi]))
   go_ret;exact ⟨jC HS.out.symm,rfl⟩
  ·cases hg:pO (s[0].toNat:Int)
   ·have HS:Hid (xC s flow=false):=Lib.hid (by simp [xC,he,HB.out,hg,hi])
    have g1:((s[0].toNat:Int) != 45)=true:=by simp [pO] at hg ⊢; omega
    have g2:((s[0].toNat:Int) != 63)=true:=by simp [pO] at hg ⊢; omega
    have g3:((s[0].toNat:Int) != 58)=true:=by simp [pO] at hg ⊢; omega
    have HG:=Lib.hid hg;clear hg;go_enter Tryz.func138,Tryz.ntmps138;go_wp2_with (first | (go_at_call 36; refine (yN s 0 0 _ hs rfl).mono ?_; rintro e w' ⟨rfl,rfl⟩; rw [he]) | (go_at_call 180; refine (gK _ _).mono ?_; rintro e w' ⟨rfl,rfl⟩; rw [hi]))
    go_ret;exact ⟨jC HS.out.symm,rfl⟩
   ·have HS:Hid (xC s flow = !uM s 0 flow):=Lib.hid (by simp [xC,he,HB.out,hg])
    have HG:=Lib.hid hg;clear hg;have z0:uI s (0:Int).toNat=false:=he;cases he1:uI s 1
    ·have z1:uI s (1:Int).toNat=false:=he1;have hlt1:=eB he1;have HB1:Hid (bt s 1=(s[1].toNat:Int)):=Lib.hid (xU s 1 hlt1);cases flow
     ·go_enter Tryz.func138,Tryz.ntmps138;go_wp2_with (first | (go_at_call 36; refine (oQ s _ _ hs (by omega)).mono ?_; rintro e w' ⟨rfl,rfl⟩; first | rw [z0] | rw [z1]) | (go_at_call 180; refine (gK _ _).mono ?_; rintro e w' ⟨rfl,rfl⟩; rw [hi]))
      all_goals go_ret
      all_goals first | (exfalso; have:=HG.out; simp_all [pO]; done) | exact ⟨jC (by rw [HS.out]; simp [uM,he1]),rfl⟩
     ·go_enter Tryz.func138,Tryz.ntmps138;go_wp2_with (first | (go_at_call 36; refine (oQ s _ _ hs (by omega)).mono ?_; rintro e w' ⟨rfl,rfl⟩; first | rw [z0] | rw [z1]) | (go_at_call 180; refine (gK _ _).mono ?_; rintro e w' ⟨rfl,rfl⟩; rw [hi]) | (go_at_call 69; refine (zC _ _).mono ?_; rintro e w' ⟨rfl,rfl⟩))
      all_goals go_ret
      all_goals first | (exfalso; have:=HG.out; simp_all [pO]; done) | exact ⟨jC (by rw [HS.out]; simp [uM,he1,HB1.out]),rfl⟩
    ·have z1:uI s (1:Int).toNat=true:=he1;go_enter Tryz.func138,Tryz.ntmps138;go_wp2_with (first | (go_at_call 36; refine (oQ s _ _ hs (by omega)).mono ?_; rintro e w' ⟨rfl,rfl⟩; first | rw [z0] | rw [z1]) | (go_at_call 180; refine (gK _ _).mono ?_; rintro e w' ⟨rfl,rfl⟩; rw [hi]))
     all_goals go_ret
     all_goals first | (exfalso; have:=HG.out; simp_all [pO]; done) | exact ⟨jC (by rw [HS.out]; simp [uM,he1]),rfl⟩
 ·go_enter Tryz.func138,Tryz.ntmps138;go_wp2_with (go_at_call 36; refine (yN s 0 0 _ hs rfl).mono ?_; rintro e w' ⟨rfl,rfl⟩; rw [he]);go_ret;exact ⟨jC (by simp [xC,he]),rfl⟩
theorem bB {s:ByteArray} {flow:Bool} {f p:Nat} (h1:p<s.size) (h2:bt s p≠10) (h3:yJ s flow p=false):vK s flow (f+1) p=vK s flow f (p+1):=by
 rw [vK,if_pos ⟨h1,h2⟩,if_neg (by rw [h3]; decide)]
theorem qDy {s:ByteArray} {flow:Bool} {f p:Nat} (h:¬ p<s.size):vK s flow f p=p:=by
 cases f with
 | zero=>rfl
 | succ f=>rw [vK,if_neg (fun x=>h x.1)]
theorem qJb {s:ByteArray} {flow:Bool} {f p:Nat} (h:bt s p=10):vK s flow f p=p:=by
 cases f with
 | zero=>rfl
 | succ f=>rw [vK,if_neg (fun x=>x.2 h)]
theorem fY {s:ByteArray} {flow:Bool} {f p:Nat} (h:yJ s flow p=true):vK s flow f p=p:=by
 cases f with
 | zero=>rfl
 | succ f=>
  rw [vK];split
  ·first | rfl | rw [if_pos h]
  ·rfl
set_option maxRecDepth 100000 in
set_option maxHeartbeats 4000000 in
theorem jPa (s:ByteArray) (flow:Bool) (w:World) (hs:s.size≤140737488355327) :
  Calls Tryz.prog 139 #[.string s,.int .i64 0,.bool flow] w fun e w'=>e = .returned (.int .i64 (zP s flow:Nat))∧w=w':=by
 by_cases h0:s.size=0
 ·have HE:Hid (zP s flow=0):=Lib.hid (by rw [zP,h0]; rfl)
  go_enter Tryz.func139,Tryz.ntmps139;go_wp2;go_ret;exact ⟨qD (by rw [HE.out]; rfl),rfl⟩
 ·go_enter Tryz.func139,Tryz.ntmps139;go_wp2;go_loop [7] (fun v=>∃ p f:Nat,v = .int .i64 p∧p≤s.size∧s.size≤p+f∧Hid (vK s flow f p=vK s flow s.size 0)) (fun v=>s.size - (intOf v).toNat)
  case atStart=>exact ⟨0,s.size,rfl,Nat.zero_le _,by omega,rfl⟩
  case round=>
   obtain ⟨p,f,rfl,hp,hf0,HR⟩:=hrel;by_cases hlt:p<s.size
   ·obtain ⟨f,rfl⟩:∃ g,f=g+1:=⟨f - 1,by omega⟩
    have HB:Hid (bt s p=(s[p].toNat:Int)):=Lib.hid (xU s p hlt);cases h10:((s[p].toNat:Int) != 10)
    ·have HE:Hid (zP s flow=qQ s p):=Lib.hid (by rw [zP,←HR.out,qJb (by rw [HB.out]; simpa using h10)])
     clear HR;go_wp2;go_loop [7] (fun v=>∃ e:Nat,v = .int .i64 e∧e≤s.size∧Hid (zP s flow=qQ s e)) (fun v=>(intOf v).toNat)
     case atStart=>exact ⟨p,rfl,hp,HE⟩
     case round=>
      obtain ⟨e,rfl,he,HR⟩:=hrel;by_cases hz:0<e
      ·obtain ⟨m,rfl⟩:∃ m,e=m+1:=⟨e - 1,by omega⟩
       have HB:Hid (zP s flow=if qP (s[m].toNat:Int)=true then qQ s m else m+1):=Lib.hid (by rw [HR.out,qQ,xU s m (by omega)])
       cases hw:qP (s[m].toNat:Int)
       ·go_wp2_with (go_at_call 38; refine (jQ _ _).mono ?_; rintro e w' ⟨rfl,rfl⟩; rw [hw]);go_ret;exact ⟨qD (by rw [HB.out,hw]; simp),rfl⟩
       ·go_wp2_with (go_at_call 38; refine (jQ _ _).mono ?_; rintro e w' ⟨rfl,rfl⟩; rw [hw]);refine ⟨⟨m,by go_num,by omega,Lib.hid (by rw [HB.out,hw]; rfl)⟩,by simp [intOf]⟩
      ·obtain rfl:e=0:=by omega
       go_wp2;go_ret;exact ⟨qD (by rw [HR.out]; rfl),rfl⟩
    ·cases h35:((s[p].toNat:Int)==35)
     ·cases h58:((s[p].toNat:Int)==58)
      ·have HN:Hid (yJ s flow p=(flow&&zB (s[p].toNat:Int))):=Lib.hid (by unfold yJ; rw [HB.out,if_neg (by simpa using h35),if_neg (by simpa using h58)])
       cases flow
       ·have HS:Hid (yJ s false p=false):=Lib.hid (by rw [HN.out]; rfl)
        go_wp2;refine ⟨⟨p+1,f,by go_num,by omega,by omega,Lib.hid (by rw [←HR.out,bB hlt (by rw [HB.out]; simpa using h10) HS.out])⟩,by simp [intOf]; omega⟩
       ·cases hf:zB (s[p].toNat:Int)
        ·have HS:Hid (yJ s true p=false):=Lib.hid (by rw [HN.out,hf]; rfl)
         go_wp2_with (first | (go_at_call 69; refine (zC _ _).mono ?_; rintro e w' ⟨rfl,rfl⟩; first | rw [hf] | rw [show zB 58=false from rfl] | rw [show zB 35=false from rfl]))
         refine ⟨⟨p+1,f,by go_num,by omega,by omega,Lib.hid (by rw [←HR.out,bB hlt (by rw [HB.out]; simpa using h10) HS.out])⟩,by simp [intOf]; omega⟩
        ·have HE:Hid (zP s true=qQ s p):=Lib.hid (by rw [zP,←HR.out,fY (by rw [HN.out,hf]; rfl)])
         clear HR;go_wp2_with (first | (go_at_call 69; refine (zC _ _).mono ?_; rintro e w' ⟨rfl,rfl⟩; first | rw [hf] | rw [show zB 58=false from rfl] | rw [show zB 35=false from rfl]))
         go_loop [7] (fun v=>∃ e:Nat,v = .int .i64 e∧e≤s.size∧Hid (zP s true=qQ s e)) (fun v=>(intOf v).toNat)
         case atStart=>exact ⟨p,rfl,hp,HE⟩
         case round=>
          obtain ⟨e,rfl,he,HR⟩:=hrel;by_cases hz:0<e
          ·obtain ⟨m,rfl⟩:∃ m,e=m+1:=⟨e - 1,by omega⟩
           have HB:Hid (zP s true=if qP (s[m].toNat:Int)=true then qQ s m else m+1):=Lib.hid (by rw [HR.out,qQ,xU s m (by omega)])
           cases hw:qP (s[m].toNat:Int)
           ·go_wp2_with (go_at_call 38; refine (jQ _ _).mono ?_; rintro e w' ⟨rfl,rfl⟩; rw [hw]);go_ret;exact ⟨qD (by rw [HB.out,hw]; simp),rfl⟩
           ·go_wp2_with (go_at_call 38; refine (jQ _ _).mono ?_; rintro e w' ⟨rfl,rfl⟩; rw [hw]);refine ⟨⟨m,by go_num,by omega,Lib.hid (by rw [HB.out,hw]; rfl)⟩,by simp [intOf]⟩
          ·obtain rfl:e=0:=by omega
           go_wp2;go_ret;exact ⟨qD (by rw [HR.out]; rfl),rfl⟩
      ·have h58':(s[p].toNat:Int)=58:=by simpa using h58
       have HN:Hid (yJ s flow p=uM s p flow):=Lib.hid (by unfold yJ; rw [HB.out,if_neg (by omega),if_pos h58'])
       have hf:zB (s[p].toNat:Int)=false:=by rw [h58']; rfl
       cases he1:uI s (p+1)
       ·have hlt1:=eB he1;have HB1:Hid (bt s (p+1)=(s[p+1].toNat:Int)):=Lib.hid (xU s (p+1) hlt1);cases flow
        ·have HS:Hid (yJ s false p=false):=Lib.hid (by rw [HN.out]; simp [uM,he1])
         go_wp2_with (first | (go_at_call 36; refine (yN s _ (p+1) _ (by omega) (by omega)).mono ?_; rintro e w' ⟨rfl,rfl⟩; rw [he1]))
         refine ⟨⟨p+1,f,by go_num,by omega,by omega,Lib.hid (by rw [←HR.out,bB hlt (by rw [HB.out]; simpa using h10) HS.out])⟩,by simp [intOf]; omega⟩
        ·cases hf1:zB (s[p+1].toNat:Int)
         ·have HS:Hid (yJ s true p=false):=Lib.hid (by rw [HN.out]; simp [uM,he1,HB1.out,hf1])
          go_wp2_with (first | (go_at_call 69; refine (zC _ _).mono ?_; rintro e w' ⟨rfl,rfl⟩; first | rw [hf1] | rw [hf] | rw [show zB 58=false from rfl] | rw [show zB 35=false from rfl]) | (go_at_call 36; refine (yN s _ (p+1) _ (by omega) (by omega)).mono ?_; rintro e w' ⟨rfl,rfl⟩; rw [he1]))
          refine ⟨⟨p+1,f,by go_num,by omega,by omega,Lib.hid (by rw [←HR.out,bB hlt (by rw [HB.out]; simpa using h10) HS.out])⟩,by simp [intOf]; omega⟩
         ·have HE:Hid (zP s true=qQ s p):=Lib.hid (by rw [zP,←HR.out,fY (by rw [HN.out]; simp [uM,he1,HB1.out,hf1])])
          clear HR;go_wp2_with (first | (go_at_call 69; refine (zC _ _).mono ?_; rintro e w' ⟨rfl,rfl⟩; first | rw [hf1] | rw [hf] | rw [show zB 58=false from rfl] | rw [show zB 35=false from rfl]) | (go_at_call 36; refine (yN s _ (p+1) _ (by omega) (by omega)).mono ?_; rintro e w' ⟨rfl,rfl⟩; rw [he1]))
          go_loop [7] (fun v=>∃ e:Nat,v = .int .i64 e∧e≤s.size∧Hid (zP s true=qQ s e)) (fun v=>(intOf v).toNat)
          case atStart=>exact ⟨p,rfl,hp,HE⟩
          case round=>
           obtain ⟨e,rfl,he,HR⟩:=hrel;by_cases hz:0<e
           ·obtain ⟨m,rfl⟩:∃ m,e=m+1:=⟨e - 1,by omega⟩
            have HB:Hid (zP s true=if qP (s[m].toNat:Int)=true then qQ s m else m+1):=Lib.hid (by rw [HR.out,qQ,xU s m (by omega)])
            cases hw:qP (s[m].toNat:Int)
            ·go_wp2_with (go_at_call 38; refine (jQ _ _).mono ?_; rintro e w' ⟨rfl,rfl⟩; rw [hw]);go_ret;exact ⟨qD (by rw [HB.out,hw]; simp),rfl⟩
            ·go_wp2_with (go_at_call 38; refine (jQ _ _).mono ?_; rintro e w' ⟨rfl,rfl⟩; rw [hw]);refine ⟨⟨m,by go_num,by omega,Lib.hid (by rw [HB.out,hw]; rfl)⟩,by simp [intOf]⟩
           ·obtain rfl:e=0:=by omega
            go_wp2;go_ret;exact ⟨qD (by rw [HR.out]; rfl),rfl⟩
       ·cases flow
        ·have HE:Hid (zP s false=qQ s p):=Lib.hid (by rw [zP,←HR.out,fY (by rw [HN.out]; simp [uM,he1])])
         clear HR;go_wp2_with (first | (go_at_call 69; refine (zC _ _).mono ?_; rintro e w' ⟨rfl,rfl⟩; first | rw [hf] | rw [show zB 58=false from rfl] | rw [show zB 35=false from rfl]) | (go_at_call 36; refine (yN s _ (p+1) _ (by omega) (by omega)).mono ?_; rintro e w' ⟨rfl,rfl⟩; rw [he1]))
         go_loop [7] (fun v=>∃ e:Nat,v = .int .i64 e∧e≤s.size∧Hid (zP s false=qQ s e)) (fun v=>(intOf v).toNat)
         case atStart=>exact ⟨p,rfl,hp,HE⟩
         case round=>
          obtain ⟨e,rfl,he,HR⟩:=hrel;by_cases hz:0<e
          ·obtain ⟨m,rfl⟩:∃ m,e=m+1:=⟨e - 1,by omega⟩
           have HB:Hid (zP s false=if qP (s[m].toNat:Int)=true then qQ s m else m+1):=Lib.hid (by rw [HR.out,qQ,xU s m (by omega)])
           cases hw:qP (s[m].toNat:Int)
           ·go_wp2_with (go_at_call 38; refine (jQ _ _).mono ?_; rintro e w' ⟨rfl,rfl⟩; rw [hw]);go_ret;exact ⟨qD (by rw [HB.out,hw]; simp),rfl⟩
           ·go_wp2_with (go_at_call 38; refine (jQ _ _).mono ?_; rintro e w' ⟨rfl,rfl⟩; rw [hw]);refine ⟨⟨m,by go_num,by omega,Lib.hid (by rw [HB.out,hw]; rfl)⟩,by simp [intOf]⟩
          ·obtain rfl:e=0:=by omega
           go_wp2;go_ret;exact ⟨qD (by rw [HR.out]; rfl),rfl⟩
        ·have HE:Hid (zP s true=qQ s p):=Lib.hid (by rw [zP,←HR.out,fY (by rw [HN.out]; simp [uM,he1])])
         clear HR;go_wp2_with (first | (go_at_call 69; refine (zC _ _).mono ?_; rintro e w' ⟨rfl,rfl⟩; first | rw [hf] | rw [show zB 58=false from rfl] | rw [show zB 35=false from rfl]) | (go_at_call 36; refine (yN s _ (p+1) _ (by omega) (by omega)).mono ?_; rintro e w' ⟨rfl,rfl⟩; rw [he1]))
         go_loop [7] (fun v=>∃ e:Nat,v = .int .i64 e∧e≤s.size∧Hid (zP s true=qQ s e)) (fun v=>(intOf v).toNat)
         case atStart=>exact ⟨p,rfl,hp,HE⟩
         case round=>
          obtain ⟨e,rfl,he,HR⟩:=hrel;by_cases hz:0<e
          ·obtain ⟨m,rfl⟩:∃ m,e=m+1:=⟨e - 1,by omega⟩
           have HB:Hid (zP s true=if qP (s[m].toNat:Int)=true then qQ s m else m+1):=Lib.hid (by rw [HR.out,qQ,xU s m (by omega)])
           cases hw:qP (s[m].toNat:Int)
           ·go_wp2_with (go_at_call 38; refine (jQ _ _).mono ?_; rintro e w' ⟨rfl,rfl⟩; rw [hw]);go_ret;exact ⟨qD (by rw [HB.out,hw]; simp),rfl⟩
           ·go_wp2_with (go_at_call 38; refine (jQ _ _).mono ?_; rintro e w' ⟨rfl,rfl⟩; rw [hw]);refine ⟨⟨m,by go_num,by omega,Lib.hid (by rw [HB.out,hw]; rfl)⟩,by simp [intOf]⟩
          ·obtain rfl:e=0:=by omega
           go_wp2;go_ret;exact ⟨qD (by rw [HR.out]; rfl),rfl⟩
     ·have h35':(s[p].toNat:Int)=35:=by simpa using h35
      have HN:Hid (yJ s flow p=(decide (0<p)&&qP (bt s (p - 1)))):=Lib.hid (by unfold yJ; rw [HB.out,if_pos h35'])
      have hf:zB (s[p].toNat:Int)=false:=by rw [h35']; rfl
      by_cases hz:0<p
      ·have HW:Hid (bt s (p - 1)=(s[p - 1].toNat:Int)):=Lib.hid (xU s (p - 1) (by omega))
       cases hw:qP (s[p - 1].toNat:Int)
       ·cases flow
        ·have HS:Hid (yJ s false p=false):=Lib.hid (by rw [HN.out,HW.out,hw,Bool.and_false])
         go_wp2_with (first | (go_at_call 38; refine (jQ _ _).mono ?_; rintro e w' ⟨rfl,rfl⟩; rw [hw]) | (go_at_call 69; refine (zC _ _).mono ?_; rintro e w' ⟨rfl,rfl⟩; first | rw [hf] | rw [show zB 58=false from rfl] | rw [show zB 35=false from rfl]))
         refine ⟨⟨p+1,f,by go_num,by omega,by omega,Lib.hid (by rw [←HR.out,bB hlt (by rw [HB.out]; simpa using h10) HS.out])⟩,by simp [intOf]; omega⟩
        ·have HS:Hid (yJ s true p=false):=Lib.hid (by rw [HN.out,HW.out,hw,Bool.and_false])
         go_wp2_with (first | (go_at_call 38; refine (jQ _ _).mono ?_; rintro e w' ⟨rfl,rfl⟩; rw [hw]) | (go_at_call 69; refine (zC _ _).mono ?_; rintro e w' ⟨rfl,rfl⟩; first | rw [hf] | rw [show zB 58=false from rfl] | rw [show zB 35=false from rfl]))
         refine ⟨⟨p+1,f,by go_num,by omega,by omega,Lib.hid (by rw [←HR.out,bB hlt (by rw [HB.out]; simpa using h10) HS.out])⟩,by simp [intOf]; omega⟩
       ·cases flow
        ·have HE:Hid (zP s false=qQ s p):=Lib.hid (by rw [zP,←HR.out,fY (by rw [HN.out,HW.out,hw]; simp; exact hz)])
         clear HR;go_wp2_with (first | (go_at_call 38; refine (jQ _ _).mono ?_; rintro e w' ⟨rfl,rfl⟩; rw [hw]) | (go_at_call 69; refine (zC _ _).mono ?_; rintro e w' ⟨rfl,rfl⟩; first | rw [hf] | rw [show zB 58=false from rfl] | rw [show zB 35=false from rfl]))
         go_loop [7] (fun v=>∃ e:Nat,v = .int .i64 e∧e≤s.size∧Hid (zP s false=qQ s e)) (fun v=>(intOf v).toNat)
         case atStart=>exact ⟨p,rfl,hp,HE⟩
         case round=>
          obtain ⟨e,rfl,he,HR⟩:=hrel;by_cases hz:0<e
          ·obtain ⟨m,rfl⟩:∃ m,e=m+1:=⟨e - 1,by omega⟩
           have HB:Hid (zP s false=if qP (s[m].toNat:Int)=true then qQ s m else m+1):=Lib.hid (by rw [HR.out,qQ,xU s m (by omega)])
           cases hw:qP (s[m].toNat:Int)
           ·go_wp2_with (go_at_call 38; refine (jQ _ _).mono ?_; rintro e w' ⟨rfl,rfl⟩; rw [hw]);go_ret;exact ⟨qD (by rw [HB.out,hw]; simp),rfl⟩
           ·go_wp2_with (go_at_call 38; refine (jQ _ _).mono ?_; rintro e w' ⟨rfl,rfl⟩; rw [hw]);refine ⟨⟨m,by go_num,by omega,Lib.hid (by rw [HB.out,hw]; rfl)⟩,by simp [intOf]⟩
          ·obtain rfl:e=0:=by omega
           go_wp2;go_ret;exact ⟨qD (by rw [HR.out]; rfl),rfl⟩
        ·have HE:Hid (zP s true=qQ s p):=Lib.hid (by rw [zP,←HR.out,fY (by rw [HN.out,HW.out,hw]; simp; exact hz)])
         clear HR;go_wp2_with (first | (go_at_call 38; refine (jQ _ _).mono ?_; rintro e w' ⟨rfl,rfl⟩; rw [hw]) | (go_at_call 69; refine (zC _ _).mono ?_; rintro e w' ⟨rfl,rfl⟩; first | rw [hf] | rw [show zB 58=false from rfl] | rw [show zB 35=false from rfl]))
         go_loop [7] (fun v=>∃ e:Nat,v = .int .i64 e∧e≤s.size∧Hid (zP s true=qQ s e)) (fun v=>(intOf v).toNat)
         case atStart=>exact ⟨p,rfl,hp,HE⟩
         case round=>
          obtain ⟨e,rfl,he,HR⟩:=hrel;by_cases hz:0<e
          ·obtain ⟨m,rfl⟩:∃ m,e=m+1:=⟨e - 1,by omega⟩
           have HB:Hid (zP s true=if qP (s[m].toNat:Int)=true then qQ s m else m+1):=Lib.hid (by rw [HR.out,qQ,xU s m (by omega)])
           cases hw:qP (s[m].toNat:Int)
           ·go_wp2_with (go_at_call 38; refine (jQ _ _).mono ?_; rintro e w' ⟨rfl,rfl⟩; rw [hw]);go_ret;exact ⟨qD (by rw [HB.out,hw]; simp),rfl⟩
           ·go_wp2_with (go_at_call 38; refine (jQ _ _).mono ?_; rintro e w' ⟨rfl,rfl⟩; rw [hw]);refine ⟨⟨m,by go_num,by omega,Lib.hid (by rw [HB.out,hw]; rfl)⟩,by simp [intOf]⟩
          ·obtain rfl:e=0:=by omega
           go_wp2;go_ret;exact ⟨qD (by rw [HR.out]; rfl),rfl⟩
      ·cases flow
       ·have HS:Hid (yJ s false p=false):=Lib.hid (by rw [HN.out]; simp; omega)
        go_wp2_with (first | (go_at_call 69; refine (zC _ _).mono ?_; rintro e w' ⟨rfl,rfl⟩; first | rw [hf] | rw [show zB 58=false from rfl] | rw [show zB 35=false from rfl]))
        refine ⟨⟨p+1,f,by go_num,by omega,by omega,Lib.hid (by rw [←HR.out,bB hlt (by rw [HB.out]; simpa using h10) HS.out])⟩,by simp [intOf]; omega⟩
       ·have HS:Hid (yJ s true p=false):=Lib.hid (by rw [HN.out]; simp; omega)
        go_wp2_with (first | (go_at_call 69; refine (zC _ _).mono ?_; rintro e w' ⟨rfl,rfl⟩; first | rw [hf] | rw [show zB 58=false from rfl] | rw [show zB 35=false from rfl]))
        refine ⟨⟨p+1,f,by go_num,by omega,by omega,Lib.hid (by rw [←HR.out,bB hlt (by rw [HB.out]; simpa using h10) HS.out])⟩,by simp [intOf]; omega⟩
   ·have HE:Hid (zP s flow=qQ s p):=Lib.hid (by rw [zP,←HR.out,qDy hlt])
    clear HR;go_wp2;go_loop [7] (fun v=>∃ e:Nat,v = .int .i64 e∧e≤s.size∧Hid (zP s flow=qQ s e)) (fun v=>(intOf v).toNat)
    case atStart=>exact ⟨p,rfl,hp,HE⟩
    case round=>
     obtain ⟨e,rfl,he,HR⟩:=hrel;by_cases hz:0<e
     ·obtain ⟨m,rfl⟩:∃ m,e=m+1:=⟨e - 1,by omega⟩
      have HB:Hid (zP s flow=if qP (s[m].toNat:Int)=true then qQ s m else m+1):=Lib.hid (by rw [HR.out,qQ,xU s m (by omega)])
      cases hw:qP (s[m].toNat:Int)
      ·go_wp2_with (go_at_call 38; refine (jQ _ _).mono ?_; rintro e w' ⟨rfl,rfl⟩; rw [hw]);go_ret;exact ⟨qD (by rw [HB.out,hw]; simp),rfl⟩
      ·go_wp2_with (go_at_call 38; refine (jQ _ _).mono ?_; rintro e w' ⟨rfl,rfl⟩; rw [hw]);refine ⟨⟨m,by go_num,by omega,Lib.hid (by rw [HB.out,hw]; rfl)⟩,by simp [intOf]⟩
     ·obtain rfl:e=0:=by omega
      go_wp2;go_ret;exact ⟨qD (by rw [HR.out]; rfl),rfl⟩
end
noncomputable section
set_option linter.all false
open Go.RowKit
def qZ (s:ByteArray) (k:Nat):Int×Int:=if (Utf8.decode s k).1=65533∧(Utf8.decode s k).2<2 then (0,0) else (((Utf8.decode s k).1:Int),((Utf8.decode s k).2:Int))
theorem uS (s:ByteArray) (k:Nat) (h:k<s.size):s.get! k=s[k]:=by
 cases s with
 | mk d=>exact getElem!_pos d k h
theorem jYw (s:ByteArray) (k:Nat) (h:k<s.size) (ha:s[k].toNat<128):qZ s k=((s[k].toNat:Int),1):=by
 unfold qZ;rw [decode_ascii s k h ha,if_neg (by omega)]
 rfl
theorem iF {s:ByteArray} {k:Nat} (h:Utf8.decode s k=(Utf8.runeError,1)):qZ s k=(0,0):=by
 unfold qZ;rw [h,if_pos (by exact ⟨rfl,by decide⟩)]
theorem jEj {s:ByteArray} {k r n:Nat} (h:Utf8.decode s k=(r,n)) (hn:2≤n):qZ s k=((r:Int),(n:Int)):=by
 unfold qZ;rw [h,if_neg (by simp; omega)]
theorem qHl (s:ByteArray) (k:Nat) (h:k<s.size) (ha:128≤s[k].toNat) (hb:s[k].toNat<194∨245≤s[k].toNat):Utf8.decode s k=(Utf8.runeError,1):=by
 have hlt:=s[k].toNat_lt;unfold Utf8.decode;simp only [Nat.add_zero,uS s k h];generalize s[k].toNat=b0 at *;rw [if_neg (by omega)]
 by_cases h6:b0 / 32=6
 ·have hb0:b0<194:=by omega
  have e14:(b0 / 16==14)=false:=by simp; omega
  have e30:(b0 / 8==30)=false:=by simp; omega
  split
  ·rw [if_neg (by have:(s.get! (k+1)).toNat % 64<64:=Nat.mod_lt _ (by decide); omega)]
  ·simp [e14,e30]
 ·have e6:(b0 / 32==6)=false:=by simp; omega
  have e14:(b0 / 16==14)=false:=by simp; omega
  by_cases h8:b0 / 8=30
  ·have h4:5≤b0 % 8:=by omega
   rw [if_neg (by simp [e6]),if_neg (by simp [e14])]
   split
   ·rw [if_neg];simp [Utf8.valid]; omega
   ·rfl
  ·have e30:(b0 / 8==30)=false:=by simp; omega
   rw [if_neg (by simp [e6]),if_neg (by simp [e14]),if_neg (by simp [e30])]
theorem qIl (s:ByteArray) (k:Nat) (h:k<s.size) (ha:128≤s[k].toNat) (hb:s[k].toNat<194∨245≤s[k].toNat):qZ s k=(0,0):=iF (qHl s k h ha hb)
theorem oL (s:ByteArray) (k n:Nat) (h:k<s.size) (hs:s.size<k+n) (hn:(n=2∧194≤s[k].toNat∧s[k].toNat<224)∨(n=3∧224≤s[k].toNat∧s[k].toNat<240)∨(n=4∧240≤s[k].toNat∧s[k].toNat<245)):qZ s k=(0,0):=by
 apply iF;unfold Utf8.decode;simp only [Nat.add_zero,uS s k h];generalize s[k].toNat=b0 at *;rw [if_neg (by omega)]
 rcases hn with ⟨rfl,h1,h2⟩ | ⟨rfl,h1,h2⟩ | ⟨rfl,h1,h2⟩
 ·have e1:decide (k+1<s.size)=false:=by simp; omega
  simp [e1]
 ·have e6:(b0 / 32==6)=false:=by simp; omega
  have e1:decide (k+2<s.size)=false:=by simp; omega
  have e30:(b0 / 8==30)=false:=by simp; omega
  simp [e6,e1,e30]
 ·have e6:(b0 / 32==6)=false:=by simp; omega
  have e14:(b0 / 16==14)=false:=by simp; omega
  have e1:decide (k+3<s.size)=false:=by simp; omega
  simp [e6,e1,e14]
theorem qIm (s:ByteArray) (k:Nat) (h:k+1<s.size) (h1:194≤s[k].toNat) (h2:s[k].toNat<224) :
  qZ s k=if s[k+1].toNat / 64=2 then (((s[k].toNat % 32*64+s[k+1].toNat % 64:Nat):Int),2) else (0,0):=by
 have g0:=uS s k (by omega)
 have g1:=uS s (k+1) h;have e14:(s[k].toNat / 16==14)=false:=by simp; omega
 have e30:(s[k].toNat / 8==30)=false:=by simp; omega
 have e1:decide (k+1<s.size)=true:=by simp; omega
 split
 ·rename_i hc;refine jEj (n:=2) ?_ (Nat.le_refl _);unfold Utf8.decode;simp only [Nat.add_zero,g0,g1,e1];rw [if_neg (by omega),if_pos (by simp [hc]; omega),if_pos (by omega)]
 ·rename_i hc;refine iF ?_;unfold Utf8.decode;simp only [Nat.add_zero,g0,g1,e1];rw [if_neg (by omega),if_neg (by simp [hc]),if_neg (by simp [e14]),if_neg (by simp [e30])]
theorem jYx (s:ByteArray) (k:Nat) (h:k+2<s.size) (h1:224≤s[k].toNat) (h2:s[k].toNat<240) :
  qZ s k=if s[k+1].toNat / 64=2∧s[k+2].toNat / 64=2∧2048≤(s[k].toNat % 16*64+s[k+1].toNat % 64)*64+s[k+2].toNat % 64∧¬ (55296≤(s[k].toNat % 16*64+s[k+1].toNat % 64)*64+s[k+2].toNat % 64∧(s[k].toNat % 16*64+s[k+1].toNat % 64)*64+s[k+2].toNat % 64≤57343)
   then ((((s[k].toNat % 16*64+s[k+1].toNat % 64)*64+s[k+2].toNat % 64:Nat):Int),3) else (0,0):=by
 have g0:=uS s k (by omega)
 have g1:=uS s (k+1) (by omega)
 have g2:=uS s (k+2) h;have e6:(s[k].toNat / 32==6)=false:=by simp; omega
 have e14:(s[k].toNat / 16==14)=true:=by simp; omega
 have e30:(s[k].toNat / 8==30)=false:=by simp; omega
 have e1:decide (k+1<s.size)=true:=by simp; omega
 have e2:decide (k+2<s.size)=true:=by simp; omega
 have hb:s[k].toNat % 16<16:=Nat.mod_lt _ (by decide)
 split
 ·rename_i hc;refine jEj (n:=3) ?_ (by decide)
  unfold Utf8.decode;simp only [Nat.add_zero,g0,g1,g2,e1,e2];rw [if_neg (by omega),if_neg (by simp [e6]),if_pos (by simp [e14,hc.1,hc.2.1]),if_pos (by simp [Utf8.valid]; omega)]
  congr 1
  omega
 ·rename_i hc;refine iF ?_;unfold Utf8.decode;simp only [Nat.add_zero,g0,g1,g2,e1,e2];rw [if_neg (by omega),if_neg (by simp [e6])]
  split
  ·rename_i h3;simp [e14] at h3;rw [if_neg];simp [Utf8.valid];intro h4;have h5:=fun h5=>hc ⟨h3.1,h3.2,h5⟩;omega
  ·rw [if_neg (by simp [e30])]
theorem qDi (s:ByteArray) (k:Nat) (h:k+3<s.size) (h1:240≤s[k].toNat) (h2:s[k].toNat<245) :
  qZ s k=if s[k+1].toNat / 64=2∧s[k+2].toNat / 64=2∧s[k+3].toNat / 64=2∧65536≤((s[k].toNat % 8*64+s[k+1].toNat % 64)*64+s[k+2].toNat % 64)*64+s[k+3].toNat % 64∧((s[k].toNat % 8*64+s[k+1].toNat % 64)*64+s[k+2].toNat % 64)*64+s[k+3].toNat % 64≤1114111
   then (((((s[k].toNat % 8*64+s[k+1].toNat % 64)*64+s[k+2].toNat % 64)*64+s[k+3].toNat % 64:Nat):Int),4) else (0,0):=by
 have g0:=uS s k (by omega)
 have g1:=uS s (k+1) (by omega)
 have g2:=uS s (k+2) (by omega)
 have g3:=uS s (k+3) h;have e6:(s[k].toNat / 32==6)=false:=by simp; omega
 have e14:(s[k].toNat / 16==14)=false:=by simp; omega
 have e30:(s[k].toNat / 8==30)=true:=by simp; omega
 have e1:decide (k+1<s.size)=true:=by simp; omega
 have e2:decide (k+2<s.size)=true:=by simp; omega
 have e3:decide (k+3<s.size)=true:=by simp; omega
 split
 ·rename_i hc;refine jEj (n:=4) ?_ (by decide)
  unfold Utf8.decode;simp only [Nat.add_zero,g0,g1,g2,g3,e1,e2,e3];rw [if_neg (by omega),if_neg (by simp [e6]),if_neg (by simp [e14]),if_pos (by simp [e30,hc.1,hc.2.1,hc.2.2.1]),if_pos (by simp [Utf8.valid]; omega)]
  congr 1
  omega
 ·rename_i hc;refine iF ?_;unfold Utf8.decode;simp only [Nat.add_zero,g0,g1,g2,g3,e1,e2,e3];rw [if_neg (by omega),if_neg (by simp [e6]),if_neg (by simp [e14])]
  split
  ·rename_i h3;simp [e30] at h3;rw [if_neg];simp [Utf8.valid];intro h4;have h5:¬ ((s[k].toNat % 8*64+s[k+1].toNat % 64)*64+s[k+2].toNat % 64)*64+s[k+3].toNat % 64≤1114111:=fun h5=>hc ⟨h3.1.1,h3.1.2,h3.2,by omega,h5⟩
   omega
  ·rfl
theorem kH:∀ n:Nat,n<256→bits .and .u8 (n:Int) 192=((n / 64*64:Nat):Int):=by decide +kernel
theorem fT:∀ n:Nat,n<256→bits .and .u8 (n:Int) 63=((n % 64:Nat):Int):=by decide +kernel
theorem jXj:∀ n:Nat,n<256→bits .and .i32 (n:Int) 31=((n % 32:Nat):Int):=by decide +kernel
theorem jXi:∀ n:Nat,n<256→bits .and .i32 (n:Int) 15=((n % 16:Nat):Int):=by decide +kernel
theorem qAd:∀ n:Nat,n<256→bits .and .i32 (n:Int) 7=((n % 8:Nat):Int):=by decide +kernel
theorem named {f:Int} {v m:Nat} (h:f=(v:Int)) (hm:v<m):∃ a:Int,f=a∧0≤a∧a<m∧Hid (a=(v:Int)):=⟨v,h,by omega,by omega,rfl⟩
theorem jRl {a b:Int} (h:a=b):Value.int .i32 a = .int .i32 b:=by rw [h]
theorem xH {v:Int×Int} {r k:Int} (h:v=(r,k)):Ending.returned (.tuple #[.int .i32 r,.int .i64 k])=Ending.returned (.tuple #[.int .i32 v.1,.int .i64 v.2]):=by rw [h]
set_option maxRecDepth 10000 in
set_option maxHeartbeats 2000000 in
theorem qIi (s:ByteArray) (k:Nat) (w:World) (hs:s.size≤140737488355327) (hk:k+1<s.size) (h1:194≤s[k].toNat) (h2:s[k].toNat<224) :
  Calls Tryz.prog 109 #[.string s,.int .i64 k] w fun e w'=>e = .returned (.tuple #[.int .i32 (qZ s k).1,.int .i64 (qZ s k).2])∧w=w':=by
 have HO:=Lib.hid (qIm s k hk h1 h2);obtain ⟨a,ha,a0,a1,HA⟩:=named (jXj _ s[k].toNat_lt) (m:=32) (Nat.mod_lt _ (by decide))
 obtain ⟨b1,hb1,b10,b11,HB1⟩:=named (kH _ s[k+1].toNat_lt) (m:=256) (by have:=s[k+1].toNat_lt; omega)
 obtain ⟨c1,hc1,c10,c11,HC1⟩:=named (fT _ s[k+1].toNat_lt) (m:=64) (Nat.mod_lt _ (by decide))
 have h1':(194:Int)≤(s[k].toNat:Int):=by omega
 have h2':(s[k].toNat:Int)<224:=by omega
 cases hx1:(b1 != 128)
 ·-- a good one
  obtain ⟨R,HR⟩:∃ R:Int,Hid (R=(a*64+c1)):=⟨_,rfl⟩;have HV:Hid (qZ s k=(R,2)):=Lib.hid (by
   have e0:=HR.out;have e1:=HA.out;have f1:=HB1.out;have g1:=HC1.out;have q1:s[k+1].toNat / 64=2:=by simp at hx1; omega
   rw [HO.out,if_pos q1];refine Prod.ext ?_ rfl;show ((_:Nat):Int)=R;omega)
  clear HO;go_enter Tryz.func109,Tryz.ntmps109;go_wp2;go_loop [9,10] (fun r i=>(i = .int .i64 (1:Nat)∧r = .int .i32 a)∨(i = .int .i64 (2:Nat)∧r = .int .i32 R)) (fun _ i=>2 - (intOf i).toNat)
  case atStart=>exact .inl ⟨rfl,rfl⟩
  case round=>
   rcases hrel with ⟨rfl,rfl⟩ | ⟨rfl,rfl⟩
   ·go_wp2;exact ⟨.inr (⟨by go_num,jRl (by have:=HR.out; omega)⟩),by simp [intOf]⟩
   ·have r0:128≤R∧R<2048:=by have:=HR.out; have:=HA.out; omega
    go_wp2;go_ret2;exact ⟨xH HV.out,rfl⟩
 ·have HV:Hid (qZ s k=(0,0)):=Lib.hid (by
   have f1:=HB1.out;rw [HO.out,if_neg (by simp at hx1; omega)])
  clear HO;go_enter Tryz.func109,Tryz.ntmps109;go_wp2;go_loop [9,10] (fun r i=>(i = .int .i64 (1:Nat)∧r = .int .i32 a)) (fun _ i=>2 - (intOf i).toNat)
  case atStart=>exact ⟨rfl,rfl⟩
  case round=>
   obtain ⟨rfl,rfl⟩:=hrel;go_wp2;go_ret2;exact ⟨xH HV.out,rfl⟩
set_option maxRecDepth 10000 in
set_option maxHeartbeats 2000000 in
theorem qIj (s:ByteArray) (k:Nat) (w:World) (hs:s.size≤140737488355327) (hk:k+2<s.size) (h1:224≤s[k].toNat) (h2:s[k].toNat<240) :
  Calls Tryz.prog 109 #[.string s,.int .i64 k] w fun e w'=>e = .returned (.tuple #[.int .i32 (qZ s k).1,.int .i64 (qZ s k).2])∧w=w':=by
 have HO:=Lib.hid (jYx s k hk h1 h2);obtain ⟨a,ha,a0,a1,HA⟩:=named (jXi _ s[k].toNat_lt) (m:=16) (Nat.mod_lt _ (by decide))
 obtain ⟨b1,hb1,b10,b11,HB1⟩:=named (kH _ s[k+1].toNat_lt) (m:=256) (by have:=s[k+1].toNat_lt; omega)
 obtain ⟨c1,hc1,c10,c11,HC1⟩:=named (fT _ s[k+1].toNat_lt) (m:=64) (Nat.mod_lt _ (by decide))
 obtain ⟨b2,hb2,b20,b21,HB2⟩:=named (kH _ s[k+2].toNat_lt) (m:=256) (by have:=s[k+2].toNat_lt; omega)
 obtain ⟨c2,hc2,c20,c21,HC2⟩:=named (fT _ s[k+2].toNat_lt) (m:=64) (Nat.mod_lt _ (by decide))
 have h1':(224:Int)≤(s[k].toNat:Int):=by omega
 have h2':(s[k].toNat:Int)<240:=by omega
 cases hx1:(b1 != 128)
 ·-- a good one
  cases hx2:(b2 != 128)
  ·-- a good one
   obtain ⟨R,HR⟩:∃ R:Int,Hid (R=((a*64+c1)*64+c2)):=⟨_,rfl⟩;have HV:Hid (qZ s k=if 2048≤R∧¬ (55296≤R∧R≤57343) then (R,3) else (0,0)):=Lib.hid (by
    have e0:=HR.out;have e1:=HA.out;have f1:=HB1.out;have g1:=HC1.out;have q1:s[k+1].toNat / 64=2:=by simp at hx1; omega
    have f2:=HB2.out;have g2:=HC2.out;have q2:s[k+2].toNat / 64=2:=by simp at hx2; omega
    rw [HO.out];split<;>split<;>first | (refine Prod.ext ?_ rfl; show ((_:Nat):Int)=R; omega) | rfl | (exfalso; omega))
   clear HO;go_enter Tryz.func109,Tryz.ntmps109;go_wp2;go_loop [9,10] (fun r i=>(i = .int .i64 (1:Nat)∧r = .int .i32 a)∨(i = .int .i64 (2:Nat)∧r = .int .i32 (a*64+c1))∨(i = .int .i64 (3:Nat)∧r = .int .i32 R)) (fun _ i=>3 - (intOf i).toNat)
   case atStart=>exact .inl ⟨rfl,rfl⟩
   case round=>
    rcases hrel with ⟨rfl,rfl⟩ | ⟨rfl,rfl⟩ | ⟨rfl,rfl⟩
    ·go_wp2;exact ⟨.inr (.inl ⟨by go_num,rfl⟩),by simp [intOf]⟩
    ·go_wp2;exact ⟨.inr (.inr (⟨by go_num,jRl (by have:=HR.out; omega)⟩)),by simp [intOf]⟩
    ·have r0:0≤R∧R≤2147483647:=by have:=HR.out; omega
     have r9:R≤65535:=by have:=HR.out; omega
     rcases (show (R<2048)∨(2048≤R∧R<55296)∨(55296≤R∧R≤57343)∨(57344≤R∧R≤65535) from by omega) with hy | hy | hy | hy
     ·go_wp2;go_ret2;exact ⟨xH (by rw [HV.out,if_neg (by omega)]),rfl⟩
     ·go_wp2;go_ret2;exact ⟨xH (by rw [HV.out,if_pos (by omega)]),rfl⟩
     ·go_wp2;go_ret2;exact ⟨xH (by rw [HV.out,if_neg (by omega)]),rfl⟩
     ·go_wp2;go_ret2;exact ⟨xH (by rw [HV.out,if_pos (by omega)]),rfl⟩
  ·have HV:Hid (qZ s k=(0,0)):=Lib.hid (by
    have f2:=HB2.out;rw [HO.out,if_neg (by simp at hx2; omega)])
   clear HO;go_enter Tryz.func109,Tryz.ntmps109;go_wp2;go_loop [9,10] (fun r i=>(i = .int .i64 (1:Nat)∧r = .int .i32 a)∨(i = .int .i64 (2:Nat)∧r = .int .i32 (a*64+c1))) (fun _ i=>3 - (intOf i).toNat)
   case atStart=>exact .inl ⟨rfl,rfl⟩
   case round=>
    rcases hrel with ⟨rfl,rfl⟩ | ⟨rfl,rfl⟩
    ·go_wp2;exact ⟨.inr (⟨by go_num,rfl⟩),by simp [intOf]⟩
    ·go_wp2;go_ret2;exact ⟨xH HV.out,rfl⟩
 ·have HV:Hid (qZ s k=(0,0)):=Lib.hid (by
   have f1:=HB1.out;rw [HO.out,if_neg (by simp at hx1; omega)])
  clear HO;go_enter Tryz.func109,Tryz.ntmps109;go_wp2;go_loop [9,10] (fun r i=>(i = .int .i64 (1:Nat)∧r = .int .i32 a)) (fun _ i=>3 - (intOf i).toNat)
  case atStart=>exact ⟨rfl,rfl⟩
  case round=>
   obtain ⟨rfl,rfl⟩:=hrel;go_wp2;go_ret2;exact ⟨xH HV.out,rfl⟩
set_option maxRecDepth 10000 in
set_option maxHeartbeats 2000000 in
theorem qIk (s:ByteArray) (k:Nat) (w:World) (hs:s.size≤140737488355327) (hk:k+3<s.size) (h1:240≤s[k].toNat) (h2:s[k].toNat<245) :
  Calls Tryz.prog 109 #[.string s,.int .i64 k] w fun e w'=>e = .returned (.tuple #[.int .i32 (qZ s k).1,.int .i64 (qZ s k).2])∧w=w':=by
 have HO:=Lib.hid (qDi s k hk h1 h2);obtain ⟨a,ha,a0,a1,HA⟩:=named (qAd _ s[k].toNat_lt) (m:=8) (Nat.mod_lt _ (by decide))
 obtain ⟨b1,hb1,b10,b11,HB1⟩:=named (kH _ s[k+1].toNat_lt) (m:=256) (by have:=s[k+1].toNat_lt; omega)
 obtain ⟨c1,hc1,c10,c11,HC1⟩:=named (fT _ s[k+1].toNat_lt) (m:=64) (Nat.mod_lt _ (by decide))
 obtain ⟨b2,hb2,b20,b21,HB2⟩:=named (kH _ s[k+2].toNat_lt) (m:=256) (by have:=s[k+2].toNat_lt; omega)
 obtain ⟨c2,hc2,c20,c21,HC2⟩:=named (fT _ s[k+2].toNat_lt) (m:=64) (Nat.mod_lt _ (by decide))
 obtain ⟨b3,hb3,b30,b31,HB3⟩:=named (kH _ s[k+3].toNat_lt) (m:=256) (by have:=s[k+3].toNat_lt; omega)
 obtain ⟨c3,hc3,c30,c31,HC3⟩:=named (fT _ s[k+3].toNat_lt) (m:=64) (Nat.mod_lt _ (by decide))
 have h1':(240:Int)≤(s[k].toNat:Int):=by omega
 have h2':(s[k].toNat:Int)<245:=by omega
 cases hx1:(b1 != 128)
 ·-- a good one
  cases hx2:(b2 != 128)
  ·-- a good one
   cases hx3:(b3 != 128)
   ·-- a good one
    obtain ⟨R,HR⟩:∃ R:Int,Hid (R=(((a*64+c1)*64+c2)*64+c3)):=⟨_,rfl⟩;have HV:Hid (qZ s k=if 65536≤R∧R≤1114111 then (R,4) else (0,0)):=Lib.hid (by
     have e0:=HR.out;have e1:=HA.out;have f1:=HB1.out;have g1:=HC1.out;have q1:s[k+1].toNat / 64=2:=by simp at hx1; omega
     have f2:=HB2.out;have g2:=HC2.out;have q2:s[k+2].toNat / 64=2:=by simp at hx2; omega
     have f3:=HB3.out;have g3:=HC3.out;have q3:s[k+3].toNat / 64=2:=by simp at hx3; omega
     rw [HO.out];split<;>split<;>first | (refine Prod.ext ?_ rfl; show ((_:Nat):Int)=R; omega) | rfl | (exfalso; omega))
    clear HO;go_enter Tryz.func109,Tryz.ntmps109;go_wp2;go_loop [9,10] (fun r i=>(i = .int .i64 (1:Nat)∧r = .int .i32 a)∨(i = .int .i64 (2:Nat)∧r = .int .i32 (a*64+c1))∨(i = .int .i64 (3:Nat)∧r = .int .i32 ((a*64+c1)*64+c2))∨(i = .int .i64 (4:Nat)∧r = .int .i32 R)) (fun _ i=>4 - (intOf i).toNat)
    case atStart=>exact .inl ⟨rfl,rfl⟩
    case round=>
     rcases hrel with ⟨rfl,rfl⟩ | ⟨rfl,rfl⟩ | ⟨rfl,rfl⟩ | ⟨rfl,rfl⟩
     ·go_wp2;exact ⟨.inr (.inl ⟨by go_num,rfl⟩),by simp [intOf]⟩
     ·go_wp2;exact ⟨.inr (.inr (.inl ⟨by go_num,rfl⟩)),by simp [intOf]⟩
     ·go_wp2;exact ⟨.inr (.inr (.inr (⟨by go_num,jRl (by have:=HR.out; omega)⟩))),by simp [intOf]⟩
     ·have r0:0≤R∧R≤2147483647:=by have:=HR.out; omega
      rcases (show (R<65536)∨(65536≤R∧R≤1114111)∨(1114112≤R) from by omega) with hy | hy | hy
      ·go_wp2;go_ret2;exact ⟨xH (by rw [HV.out,if_neg (by omega)]),rfl⟩
      ·go_wp2;go_ret2;exact ⟨xH (by rw [HV.out,if_pos (by omega)]),rfl⟩
      ·go_wp2;go_ret2;exact ⟨xH (by rw [HV.out,if_neg (by omega)]),rfl⟩
   ·have HV:Hid (qZ s k=(0,0)):=Lib.hid (by
     have f3:=HB3.out;rw [HO.out,if_neg (by simp at hx3; omega)])
    clear HO;go_enter Tryz.func109,Tryz.ntmps109;go_wp2;go_loop [9,10] (fun r i=>(i = .int .i64 (1:Nat)∧r = .int .i32 a)∨(i = .int .i64 (2:Nat)∧r = .int .i32 (a*64+c1))∨(i = .int .i64 (3:Nat)∧r = .int .i32 ((a*64+c1)*64+c2))) (fun _ i=>4 - (intOf i).toNat)
    case atStart=>exact .inl ⟨rfl,rfl⟩
    case round=>
     rcases hrel with ⟨rfl,rfl⟩ | ⟨rfl,rfl⟩ | ⟨rfl,rfl⟩
     ·go_wp2;exact ⟨.inr (.inl ⟨by go_num,rfl⟩),by simp [intOf]⟩
     ·go_wp2;exact ⟨.inr (.inr (⟨by go_num,rfl⟩)),by simp [intOf]⟩
     ·go_wp2;go_ret2;exact ⟨xH HV.out,rfl⟩
  ·have HV:Hid (qZ s k=(0,0)):=Lib.hid (by
    have f2:=HB2.out;rw [HO.out,if_neg (by simp at hx2; omega)])
   clear HO;go_enter Tryz.func109,Tryz.ntmps109;go_wp2;go_loop [9,10] (fun r i=>(i = .int .i64 (1:Nat)∧r = .int .i32 a)∨(i = .int .i64 (2:Nat)∧r = .int .i32 (a*64+c1))) (fun _ i=>4 - (intOf i).toNat)
   case atStart=>exact .inl ⟨rfl,rfl⟩
   case round=>
    rcases hrel with ⟨rfl,rfl⟩ | ⟨rfl,rfl⟩
    ·go_wp2;exact ⟨.inr (⟨by go_num,rfl⟩),by simp [intOf]⟩
    ·go_wp2;go_ret2;exact ⟨xH HV.out,rfl⟩
 ·have HV:Hid (qZ s k=(0,0)):=Lib.hid (by
   have f1:=HB1.out;rw [HO.out,if_neg (by simp at hx1; omega)])
  clear HO;go_enter Tryz.func109,Tryz.ntmps109;go_wp2;go_loop [9,10] (fun r i=>(i = .int .i64 (1:Nat)∧r = .int .i32 a)) (fun _ i=>4 - (intOf i).toNat)
  case atStart=>exact ⟨rfl,rfl⟩
  case round=>
   obtain ⟨rfl,rfl⟩:=hrel;go_wp2;go_ret2;exact ⟨xH HV.out,rfl⟩
set_option maxRecDepth 10000 in
set_option maxHeartbeats 1000000 in
theorem jVs (s:ByteArray) (k:Nat) (w:World) (hs:s.size≤140737488355327) (hk:k<s.size) :
  Calls Tryz.prog 109 #[.string s,.int .i64 k] w fun e w'=>e = .returned (.tuple #[.int .i32 (qZ s k).1,.int .i64 (qZ s k).2])∧w=w':=by
 by_cases h128:(s[k].toNat:Int)<128
 ·have HV:=Lib.hid (jYw s k hk (by omega))
  go_enter Tryz.func109,Tryz.ntmps109;go_wp2;go_ret2;exact ⟨xH HV.out,rfl⟩
 ·by_cases ho:(s[k].toNat:Int)<194∨245≤(s[k].toNat:Int)
  ·have HV:=Lib.hid (qIl s k hk (by omega) (by omega))
   rcases ho with ho | ho
   ·go_enter Tryz.func109,Tryz.ntmps109;go_wp2;go_ret2;exact ⟨xH HV.out,rfl⟩
   ·go_enter Tryz.func109,Tryz.ntmps109;go_wp2;go_ret2;exact ⟨xH HV.out,rfl⟩
  ·rcases (show (s[k].toNat<224)∨(224≤s[k].toNat∧s[k].toNat<240)∨(240≤s[k].toNat) from by omega) with h | h | h
   ·by_cases hn:k+1<s.size
    ·exact qIi s k w hs hn (by omega) (by omega)
    ·have HV:=Lib.hid (oL s k 2 hk (by omega) (by omega))
     have h1':(194:Int)≤(s[k].toNat:Int):=by omega
     have h2':(s[k].toNat:Int)<224:=by omega
     clear ho h;go_enter Tryz.func109,Tryz.ntmps109;go_wp2;go_ret2;exact ⟨xH HV.out,rfl⟩
   ·by_cases hn:k+2<s.size
    ·exact qIj s k w hs hn (by omega) (by omega)
    ·have HV:=Lib.hid (oL s k 3 hk (by omega) (by omega))
     have h1':(224:Int)≤(s[k].toNat:Int):=by omega
     have h2':(s[k].toNat:Int)<240:=by omega
     clear ho h;go_enter Tryz.func109,Tryz.ntmps109;go_wp2;go_ret2;exact ⟨xH HV.out,rfl⟩
   ·by_cases hn:k+3<s.size
    ·exact qIk s k w hs hn (by omega) (by omega)
    ·have HV:=Lib.hid (oL s k 4 hk (by omega) (by omega))
     have h1':(240:Int)≤(s[k].toNat:Int):=by omega
     have h2':(s[k].toNat:Int)<245:=by omega
     clear ho h;go_enter Tryz.func109,Tryz.ntmps109;go_wp2;go_ret2;exact ⟨xH HV.out,rfl⟩
theorem jRe (s:ByteArray) (k:Nat) (h:(Utf8.decode s k).1=65533∧(Utf8.decode s k).2<2):qZ s k=(0,0):=by unfold qZ; rw [if_pos h]
theorem jXu (s:ByteArray) (k:Nat) (h:¬ ((Utf8.decode s k).1=65533∧(Utf8.decode s k).2<2)):(qZ s k).2=((Utf8.decode s k).2:Int):=by unfold qZ; rw [if_neg h]
theorem jSc (s:ByteArray) (f k:Nat) (hk:k<s.size):fI s (f+1) k=if (qZ s k).2=0 then (k:Int) else fI s f (k+(qZ s k).2.toNat):=by
 have hw:=Lib.decode_width_pos s k hk;rw [fI,if_pos hk];by_cases h:(Utf8.decode s k).1=65533∧(Utf8.decode s k).2<2
 ·rw [if_pos h,jRe s k h]; rfl
 ·rw [if_neg h,jXu s k h,if_neg (by omega),Int.toNat_natCast]
theorem jIe (s:ByteArray) (k:Nat) (hk:k<s.size):0≤(qZ s k).2∧k+(qZ s k).2.toNat≤s.size:=by
 have hl:(qZ s k).2.toNat≤s.size - k:=by
  unfold qZ;split
  ·simp
  ·show ((Utf8.decode s k).2:Int).toNat≤_;rw [Int.toNat_natCast];exact iU s k hk
 refine ⟨?_,by omega⟩
 unfold qZ;split
 ·simp
 ·simp
set_option maxHeartbeats 1000000 in
theorem jKu (s:ByteArray) (w:World) (hs:s.size≤140737488355327) :
  Calls Tryz.prog 107 #[.string s] w fun e w'=>e = .returned (.int .i64 (wY s))∧w=w':=by
 go_enter Tryz.func107,Tryz.ntmps107;go_wp2;go_loop [3] (fun v=>∃ k f:Nat,k≤s.size∧s.size≤k+f∧v = .int .i64 k∧Hid (fI s f k=wY s)) (fun v=>s.size - (intOf v).toNat)
 case atStart=>exact ⟨0,s.size,Nat.zero_le _,by omega,rfl,Lib.hid rfl⟩
 case round=>
  obtain ⟨k,f,hk,hf,rfl,HR⟩:=hrel;by_cases hlt:k<s.size
  ·obtain ⟨f,rfl⟩:∃ g,f=g+1:=⟨f - 1,by omega⟩
   have HS:Hid (wY s=if (qZ s k).2=0 then (k:Int) else fI s f (k+(qZ s k).2.toNat)):=Lib.hid (by rw [←HR.out,jSc s f k hlt])
   obtain ⟨n0,n1⟩:=jIe s k hlt;have HC:=Lib.hid (jVs s k w hs hlt);clear HR;generalize qZ s k=p at *;obtain ⟨r,n⟩:=p;dsimp only at HS n0 n1;obtain ⟨m,rfl⟩:=Int.eq_ofNat_of_zero_le n0;rw [Int.toNat_natCast] at HS n1;by_cases hm:m=0
   ·subst hm;go_wp2_with (go_at_call 109; refine HC.out.mono ?_; rintro e w' ⟨rfl,rfl⟩);go_ret;exact ⟨qD (HS.out.trans (if_pos rfl)).symm,rfl⟩
   ·have hm0:((m:Int)==0)=false:=by simp; omega
    go_wp2_with (go_at_call 109; refine HC.out.mono ?_; rintro e w' ⟨rfl,rfl⟩);refine ⟨⟨k+m,f,n1,by omega,by go_num,Lib.hid ?_⟩,by simp [intOf]; omega⟩
    rw [HS.out,if_neg (by omega)]
  ·have HE:Hid (wY s = -1):=Lib.hid (by
    rw [←HR.out];cases f with
    | zero=>rfl
    | succ f=>rw [fI,if_neg hlt])
   go_wp2;go_ret;exact ⟨qD HE.out.symm,rfl⟩
end
noncomputable section
set_option linter.all false
open Go.RowKit
theorem qCh:(Tryz.prog.info? 21).map (fun i=>(i.zero,i.size,i.bytes))=some (some (.int .i32 0),1,4):=by kernel_rfl
theorem tB (w:World) (x:Int) (t:TypeId):∀ j u,[Value.int .i32 x][j]?=some u→(w.alloc (.cells #[.int .i32 x] t)).cell? ((⟨w.heap.size,0,none⟩:Addr).add j)=some u:=by
 intro j u hj
 match j,hj with
 | 0,hj=>simp at hj; subst hj; simp [Addr.add]
def mV (l:List Nat):List Value:=l.map fun (r:Nat)=>Value.int .i32 (r:Int)
theorem jAq (l:List Nat) (r:Nat):mV l++[.int .i32 (r:Int)]=mV (l++[r]):=by simp [mV]
theorem jSt (s:ByteArray) (f p:Nat) (h:p<s.size):zK s (f+1) p=(Utf8.decode s p).1::zK s f (p+(Utf8.decode s p).2):=by rw [zK,if_pos h]
theorem jZj (s:ByteArray) (f p:Nat) (h:¬ p<s.size):zK s f p=[]:=by
 cases f with
 | zero=>rfl
 | succ f=>rw [zK,if_neg h]
theorem qGo {s:ByteArray} {p:Nat} (hp:p<s.size) (h:(qZ s p).2=0):Utf8.decode s p=(65533,1):=by
 have hw:=width_pos s p;unfold qZ at h;split at h
 ·rename_i h1;exact Prod.ext h1.1 (by show (Utf8.decode s p).2=1; omega)
 ·dsimp only at h;omega
theorem qBy {s:ByteArray} {p:Nat} (h:(qZ s p).2≠0):(qZ s p).1=((Utf8.decode s p).1:Int)∧(qZ s p).2=((Utf8.decode s p).2:Int):=by
 unfold qZ at h ⊢;split
 ·rename_i h1;rw [if_pos h1] at h;exact absurd rfl h
 ·exact ⟨rfl,rfl⟩
set_option maxRecDepth 100000 in
set_option maxHeartbeats 2000000 in
theorem iH (s:ByteArray) (w:World) (hs:s.size≤4200000000) :
  Calls Tryz.prog 78 #[.string s] w fun e w'=>∃ v,e = .returned v∧w'.ownsRow w.heap.size 21 1 v (zK s s.size 0).length (mV (zK s s.size 0))∧Below w.heap.size w w':=by
 obtain ⟨i0,hi,hz0,hz1,hz2⟩:=info_parts qCh;go_enter Tryz.func78,Tryz.ntmps78;go_wp2;go_loopw [3,4] (fun v p wr=>∃ (k f:Nat) (acc:List Nat),p = .int .i64 k∧k≤s.size∧s.size≤k+f∧wr.ownsRow w.heap.size 21 1 v acc.length (mV acc)∧Below w.heap.size w wr∧Hid (zK s s.size 0=acc++zK s f k)∧acc.length≤k) (fun _ p _=>s.size - (intOf p).toNat)
 case atStart=>exact ⟨0,s.size,[],rfl,Nat.zero_le _,by omega,World.ownsRow_nil _ _ _ _,Below.refl _ _,rfl,Nat.le_refl _⟩
 case round=>
  obtain ⟨k,f,acc,rfl,hk,hf,hown,hbw,HS,hal⟩:=hrel;by_cases hlt:k<s.size
  ·obtain ⟨f,rfl⟩:∃ g,f=g+1:=⟨f - 1,by omega⟩
   have HC:=fun w=>Lib.hid (jVs s k w (by omega) hlt)
   have hwp:=width_pos s k;have hwi:=iU s k hlt;have HR:Hid (zK s s.size 0=acc++(Utf8.decode s k).1::zK s f (k+(Utf8.decode s k).2)):=Lib.hid (by rw [HS.out,jSt s f k hlt])
   have hn0:=(jIe s k hlt).1;by_cases hz:(qZ s k).2=0
   ·have hd:=qGo hlt hz;rw [hd] at HR hwp hwi;dsimp only at HR hwp hwi;have hz':((qZ s k).2==0)=true:=by rw [hz]; rfl
    clear hd HS;generalize qZ s k=p at *;obtain ⟨r,n⟩:=p;dsimp only at hz hz' hn0;subst hz;go_wp2_with (first
     | (go_at_call 109; refine (HC _).out.mono ?_; rintro e w' ⟨rfl,rfl⟩)
     | (at_builtin; refine wpList_append_own _ rfl (.tmp 19) (.tmp 21) 96 rfl w.heap.size 21 i0 (.int .i32 0) 1 4 Tryz.underlying96 hi hz0 hz1 hz2 rfl (by decide) _ _ _ rfl (hown.alloc _) ⟨wr.heap.size,0,none⟩ 1 1 [.int .i32 65533] rfl rfl ?c1 ?c2 ?c3 ?c4 ?c5 ?_))
    case c1=>exact tB _ _ _
    case c2=>intro u hu; simp at hu; subst hu; rfl
    case c3=>unfold maxLen; omega
    case c4=>omega
    case c5=>have:=hbw.size; simp; omega
    intro v' w3 hown' hgrow3 _;have hbw3:Below w.heap.size w w3:=Below.grown (hbw.alloc hbw.size _) hgrow3 (by simp; have:=hbw.size; omega) (fun j hj=>(hown.lt _ hj).1)
    rw [show (.int .i32 65533:Value) = .int .i32 ((65533:Nat):Int) from rfl,jAq] at hown';clear hgrow3 hown hbw;go_wp2;go_roundw
    case rel=>exact ⟨k+1,f,acc++[65533],by go_num,by omega,by omega,by simpa using hown',hbw3,Lib.hid (by rw [HR.out]; simp),by simp; omega⟩
    case measure=>simp [intOf]; omega
   ·obtain ⟨h1,h2⟩:=qBy hz;have hz':((qZ s k).2==0)=false:=by simpa using hz
    have hr:=(jCv s k);unfold zS at hr;clear HS;generalize Utf8.decode s k=d at *;obtain ⟨rd,nd⟩:=d;dsimp only at h1 h2 HR hwp hwi hr;generalize qZ s k=p at *;obtain ⟨r,n⟩:=p;dsimp only at hz hz' hn0 h1 h2;subst h1; subst h2;go_wp2_with (first
     | (go_at_call 109; refine (HC _).out.mono ?_; rintro e w' ⟨rfl,rfl⟩)
     | (at_builtin; refine wpList_append_own _ rfl (.tmp 19) (.tmp 21) 96 rfl w.heap.size 21 i0 (.int .i32 0) 1 4 Tryz.underlying96 hi hz0 hz1 hz2 rfl (by decide) _ _ _ rfl (hown.alloc _) ⟨wr.heap.size,0,none⟩ 1 1 [.int .i32 (rd:Int)] rfl rfl ?c1 ?c2 ?c3 ?c4 ?c5 ?_))
    case c1=>exact tB _ _ _
    case c2=>intro u hu; simp at hu; subst hu; rfl
    case c3=>unfold maxLen; omega
    case c4=>omega
    case c5=>have:=hbw.size; simp; omega
    intro v' w3 hown' hgrow3 _;have hbw3:Below w.heap.size w w3:=Below.grown (hbw.alloc hbw.size _) hgrow3 (by simp; have:=hbw.size; omega) (fun j hj=>(hown.lt _ hj).1)
    rw [jAq] at hown';clear hgrow3 hown hbw;go_wp2;go_roundw
    case rel=>exact ⟨k+nd,f,acc++[rd],by go_num,by omega,by omega,by simpa using hown',hbw3,Lib.hid (by rw [HR.out]; simp),by simp; omega⟩
    case measure=>simp [intOf]; omega
  ·have HE:Hid (acc=zK s s.size 0):=Lib.hid (by rw [HS.out,jZj s f k hlt,List.append_nil])
   go_wp2;go_ret;exact ⟨_,rfl,by rw [←HE.out]; exact hown,hbw⟩
theorem wZ (r:Int) (w:World) :
  Calls Tryz.prog 108 #[.int .i32 r] w fun e w'=>e = .returned (.bool (zF r))∧w=w':=by
 go_enter Tryz.func108,Tryz.ntmps108;go_wp2
 all_goals go_ret
 all_goals exact ⟨jC (by unfold zF; rw [Bool.eq_iff_iff]; simp_all; try omega),rfl⟩
theorem qGh (g k:Nat):(⟨g,0,none⟩:Addr).add k=⟨g,k,none⟩:=by
 unfold Addr.add;by_cases h:k=0
 ·subst h; rfl
 ·simp [h]
theorem qAb (l:List Nat) (c:Nat→Bool) (k r:Nat) (h:l[k]?=some r):(l.drop k).all c=(c r&&(l.drop (k+1)).all c):=by
 obtain ⟨hlt,e⟩:=List.getElem?_eq_some_iff.1 h;rw [List.drop_eq_getElem_cons hlt,List.all_cons,e]
theorem aB {l:List Nat} {k r:Nat} (h:l[k]?=some r):(mV l)[k]?=some (.int .i32 (r:Int)):=by
 simp [mV,h]
theorem jLb (s:ByteArray):qN s=((zK s s.size 0).all (fun r=>uX (r:Int))&&decide (wY s<0)):=by
 unfold qN;rw [jCc]
set_option maxRecDepth 100000 in
set_option maxHeartbeats 2000000 in
theorem vV (s:ByteArray) (w:World) (hs:s.size≤4200000000) :
  Calls Tryz.prog 77 #[.string s] w fun e w'=>e = .returned (.bool (qN s))∧Below w.heap.size w w':=by
 have HS:=Lib.hid (jLb s);have HP:∀ w,Hid (Calls Tryz.prog 107 #[.string s] w fun e w'=>e = .returned (.int .i64 (wY s))∧w=w'):=fun w=>Lib.hid (jKu s w (by omega))
 have hlen:=aD s s.size 0;have HV:=Lib.hid (pL s s.size 0);have HR:∀ w,Hid (Calls Tryz.prog 78 #[.string s] w fun e w'=>∃ v,e = .returned v∧w'.ownsRow w.heap.size 21 1 v (zK s s.size 0).length (mV (zK s s.size 0))∧Below w.heap.size w w'):=fun w=>Lib.hid (iH s w hs);generalize wY s=pl at *;generalize zK s s.size 0=l at *;by_cases hp:0≤pl
 ·go_enter Tryz.func77,Tryz.ntmps77;go_wp2_with (go_at_call 107; refine (HP _).out.mono ?_; rintro e w' ⟨rfl,rfl⟩);go_ret;exact ⟨jC (by rw [HS.out,decide_eq_false (by omega),Bool.and_false]),Below.refl _ _⟩
 ·have HS2:Hid (qN s=l.all (fun r=>uX (r:Int))):=Lib.hid (by rw [HS.out,decide_eq_true (by omega),Bool.and_true])
  clear HS;go_enter Tryz.func77,Tryz.ntmps77;go_wp2_with (first
   | (go_at_call 107; refine (HP _).out.mono ?_; rintro e w' ⟨rfl,rfl⟩)
   | (go_at_call 78; refine (HR _).out.mono ?_; rintro e w1 ⟨v,rfl,hown,hb1⟩))
  rcases hown.2 with ⟨rfl,h0⟩ | ⟨g,cap,cur,rfl,hg,hgg,hrest⟩
  ·have hl:l=[]:=List.eq_nil_of_length_eq_zero h0;subst hl;go_loop [4] (fun v=>v = .int .i64 (0:Nat)) (fun v=>0)
   case atStart=>rfl
   case round=>
    subst hrel;go_wp2;go_ret;exact ⟨jC (by rw [HS2.out]; rfl),hb1⟩
  ·have HC:Hid (∀ (k r:Nat),l[k]?=some r→w1.cell? ⟨g,k,none⟩=some (.int .i32 (r:Int))):=Lib.hid (fun k r h=>by
    have:=hown.cells (g:=g) rfl k _ (aB h)
    rwa [qGh] at this)
   clear hown hgg hrest;go_loop [4] (fun v=>∃ k:Nat,v = .int .i64 k∧k≤l.length∧Hid (qN s=(l.drop k).all (fun r=>uX (r:Int)))) (fun v=>l.length - (intOf v).toNat)
   case atStart=>exact ⟨0,rfl,Nat.zero_le _,Lib.hid (by rw [HS2.out,List.drop_zero])⟩
   case round=>
    obtain ⟨k,rfl,hk,HK⟩:=hrel;by_cases hlt:k<l.length
    ·obtain ⟨r,hr⟩:∃ r,l[k]?=some r:=⟨_,List.getElem?_eq_getElem hlt⟩;have hc:=HC.out k r hr;have hrv:(0:Int)≤(r:Int)∧(r:Int)≤1114111:=by
      have:=HV.out r (List.mem_of_getElem? hr);unfold zS at this;omega
     have HK2:Hid (qN s=(uX (r:Int)&&(l.drop (k+1)).all (fun r=>uX (r:Int)))):=Lib.hid (by rw [HK.out,qAb l _ k r hr])
     have HL:Hid (uX (r:Int)=(((r:Int) != 10)&&zF (r:Int))):=Lib.hid rfl;clear HK hr;cases hpr:zF (r:Int)
     ·go_wp2_with (go_at_call 108; refine (wZ _ _).mono ?_; rintro e w' ⟨rfl,rfl⟩; rw [hpr]);go_ret;exact ⟨jC (by rw [HK2.out,HL.out,hpr]; simp),hb1⟩
     ·cases h10:((r:Int)==10)
      ·go_wp2_with (go_at_call 108; refine (wZ _ _).mono ?_; rintro e w' ⟨rfl,rfl⟩; rw [hpr]);refine ⟨⟨k+1,by go_num,by omega,Lib.hid (by rw [HK2.out,HL.out,hpr,bne,h10]; rfl)⟩,by simp [intOf]; omega⟩
      ·go_wp2_with (go_at_call 108; refine (wZ _ _).mono ?_; rintro e w' ⟨rfl,rfl⟩; rw [hpr]);go_ret;exact ⟨jC (by rw [HK2.out,HL.out,hpr,bne,h10]; rfl),hb1⟩
    ·have HE:Hid (qN s=true):=Lib.hid (by rw [HK.out,List.drop_eq_nil_of_le (by omega)]; rfl)
     go_wp2;go_ret;exact ⟨jC HE.out.symm,hb1⟩
end
end Go.Proofs.YtdlhiljbhepliaaGreatDoor
