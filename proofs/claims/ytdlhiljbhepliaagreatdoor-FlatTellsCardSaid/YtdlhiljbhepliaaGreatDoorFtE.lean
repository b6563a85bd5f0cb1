/-
bosketref1.Hex, digits, whole, number, Core, Long: what they compute.
-/
import Derived.Test.YtdlhiljbhepliaaGreatDoorFtA
import Derived.Deep.Cut
import Derived.Deep.CutRange
namespace Go.Proofs.YtdlhiljbhepliaaGreatDoor
noncomputable section
set_option linter.all false
open Go.RowKit
theorem qHx {a b:Int} (h:a=b):Ending.returned (.int .i32 a)=Ending.returned (.int .i32 b):=by rw [h]
set_option maxHeartbeats 400000 in
theorem jSj (c:Int) (hc:0≤c∧c≤255) (w:World) :
  Calls Tryz.prog 94 #[.int .u8 c] w fun e w'=>e = .returned (.int .i32 (jDq c))∧w=w':=by
 go_enter Tryz.func94,Tryz.ntmps94;go_wp2
 all_goals go_ret
 all_goals refine ⟨qHx ?_,rfl⟩
 all_goals go_light
 all_goals unfold jDq
 all_goals repeat' split
 all_goals omega
theorem jXv (s:ByteArray) (k:Nat) (m:Int) (h:k<s.size):xX s k m=if dgt m s[k]=true then 1+xX s (k+1) m else 0:=by
 unfold xX;rw [rR s k h];by_cases hd:dgt m s[k]=true
 ·rw [if_pos hd,List.takeWhile_cons_of_pos hd,List.length_cons,Nat.add_comm]
 ·rw [if_neg hd,List.takeWhile_cons_of_neg hd]; rfl
theorem qBe (s:ByteArray) (k:Nat) (m:Int) (h:s.size≤k):xX s k m=0:=by
 unfold xX;rw [List.drop_eq_nil_of_le (by simpa using h)]; rfl
theorem jBe (s:ByteArray) (k:Nat) (m:Int):xX s k m≤s.size - k:=by
 have h:((s.data.toList.drop k).takeWhile (dgt m)).length≤(s.data.toList.drop k).length:=(List.takeWhile_sublist _).length_le;have el:s.data.toList.length=s.size:=by simp
 rw [List.length_drop,el] at h;exact h
set_option maxHeartbeats 1000000 in
theorem yP (s:ByteArray) (a:Int) (k:Nat) (m:Int) (w:World) (hs:s.size≤4200000000) (hk:k≤s.size) (hm:0≤m∧m≤100) (ha:a=k) :
  Calls Tryz.prog 67 #[.string s,.int .i64 a,.int .i32 m] w fun e w'=>e = .returned (.int .i64 (xX s k m:Nat))∧w=w':=by
 subst ha;go_enter Tryz.func67,Tryz.ntmps67;go_wp2;go_loop [7] (fun v=>∃ n:Nat,v = .int .i64 n∧k+n≤s.size∧Hid (xX s k m=n+xX s (k+n) m)) (fun v=>s.size - k - (intOf v).toNat)
 case atStart=>exact ⟨0,rfl,by omega,Lib.hid (by simp)⟩
 case round=>
  obtain ⟨n,rfl,hn,HR⟩:=hrel;by_cases hlt:k+n<s.size
  ·have HD:Hid (dgt m s[k+n]=(decide (0≤jDq (s[k+n].toNat:Int))&&decide (jDq (s[k+n].toNat:Int)<m))):=Lib.hid rfl;have HS:Hid (xX s k m=if dgt m s[k+n]=true then n+1+xX s (k+(n+1)) m else n):=Lib.hid (by
    rw [HR.out,jXv s (k+n) m hlt];split
    ·rw [show k+(n+1)=k+n+1 by omega]; omega
    ·rfl)
   clear HR;have hb:0≤(s[k+n].toNat:Int)∧(s[k+n].toNat:Int)≤255:=by have:=s[k+n].toNat_lt; omega
   have hx : -1≤jDq (s[k+n].toNat:Int)∧jDq (s[k+n].toNat:Int)≤15:=by unfold jDq; repeat' split<;>omega
   have HX:∀ w,Hid (Calls Tryz.prog 94 #[.int .u8 (s[k+n].toNat:Int)] w fun e w'=>e = .returned (.int .i32 (jDq (s[k+n].toNat:Int)))∧w=w'):=fun w=>Lib.hid (jSj _ hb w);generalize jDq (s[k+n].toNat:Int)=h at *;generalize dgt m s[k+n]=dd at *;by_cases h0:0≤h
   ·by_cases h1:h<m
    ·go_wp2_with (go_at_call 94; refine (HX _).out.mono ?_; rintro e w' ⟨rfl,rfl⟩);refine ⟨⟨n+1,by go_num,by omega,Lib.hid (by rw [HS.out,HD.out,if_pos (by simp [h0,h1])])⟩,by simp [intOf]; omega⟩
    ·go_wp2_with (go_at_call 94; refine (HX _).out.mono ?_; rintro e w' ⟨rfl,rfl⟩);go_ret;exact ⟨qD (by rw [HS.out,HD.out,if_neg (by simp; omega)]),rfl⟩
   ·go_wp2_with (go_at_call 94; refine (HX _).out.mono ?_; rintro e w' ⟨rfl,rfl⟩);go_ret;exact ⟨qD (by rw [HS.out,HD.out,if_neg (by simp; omega)]),rfl⟩
  ·have HE:Hid (xX s k m=n):=Lib.hid (by rw [HR.out,qBe s _ m (by omega)]; rfl)
   go_wp2;go_ret;exact ⟨qD (by rw [HE.out]),rfl⟩
set_option maxHeartbeats 1000000 in
theorem iI (s:ByteArray) (m:Int) (w:World) (hs:s.size≤4200000000) (h2:2≤s.size) (hm:0≤m∧m≤100) :
  Calls Tryz.prog 141 #[.string s,.int .i32 m] w fun e w'=>e = .returned (.bool (vO s m))∧w=w':=by
 have HW:Hid (vO s m=(decide (0<xX s 2 m)&&decide (xX s 2 m=s.size - 2))):=Lib.hid rfl;have hle:=jBe s 2 m;have HD:Hid (Calls Tryz.prog 67 #[.string s,.int .i64 2,.int .i32 m] w fun e w'=>e = .returned (.int .i64 (xX s 2 m:Nat))∧w=w'):=Lib.hid (yP s 2 2 m w hs h2 hm rfl);generalize xX s 2 m=n at *;by_cases h0:0<n
 ·go_enter Tryz.func141,Tryz.ntmps141;go_wp2_with (go_at_call 67; refine HD.out.mono ?_; rintro e w' ⟨rfl,rfl⟩);go_ret;exact ⟨jC (by rw [HW.out,Bool.eq_iff_iff]; simp; omega),rfl⟩
 ·go_enter Tryz.func141,Tryz.ntmps141;go_wp2_with (go_at_call 67; refine HD.out.mono ?_; rintro e w' ⟨rfl,rfl⟩);go_ret;exact ⟨jC (by rw [HW.out,Bool.eq_iff_iff]; simp; omega),rfl⟩
theorem jW (s:ByteArray) (w:World) (hs:s.size≤140737488355328) :
  Calls Tryz.prog 48 #[.string s] w fun e w'=>e = .returned (.string (⟨#[116,97,103,58,121,97,109,108,46,111,114,103,44,50,48,48,50,58]⟩++s))∧w=w':=by
 go_enter Tryz.func48,Tryz.ntmps48;go_wp2;go_ret;exact ⟨rfl,rfl⟩
end
noncomputable section
set_option linter.all false
open Go.RowKit
theorem qLi (s:ByteArray) (p:Nat) (kind:Int) (h1:¬ (bt s p=101∨bt s p=69)):eF s p kind=if p<s.size then 0 else kind:=by
 unfold eF;rw [if_neg h1]
theorem qHs (s:ByteArray) (p q:Nat) (kind:Int) (h1:bt s p=101∨bt s p=69) (hq:q=if bt s (p+1)=43∨bt s (p+1)=45 then p+2 else p+1):eF s p kind=if xX s q 10=0 then 0 else if q+xX s q 10<s.size then 0 else 2:=by
 unfold eF;rw [if_pos h1,hq]
theorem jMl {s:ByteArray} {p:Nat} {z:Int} (h:bt s p=z) (hz:z≠256):p<s.size:=Nat.lt_of_not_le fun h'=>by have:=tP s p h'; omega
set_option maxRecDepth 100000 in
set_option maxHeartbeats 8000000 in
theorem jSk (s:ByteArray) (w:World) (hs:s.size≤4200000000) :
  Calls Tryz.prog 142 #[.string s] w fun e w'=>e = .returned (.int .i64 (oI s))∧w=w':=by
 obtain ⟨a,ha⟩:∃ a,xX s 0 10=a:=⟨_,rfl⟩;have hal:a≤s.size:=by have:=jBe s 0 10; omega
 have HN:Hid (oI s=if bt s a=46 then (if a=0∧xX s (a+1) 10=0 then 0 else eF s (a+1+xX s (a+1) 10) 2) else if a=0 then 0 else eF s a 1):=Lib.hid (by rw [←ha]; rfl)
 obtain ⟨R,hR⟩:∃ R,R=oI s:=⟨_,rfl⟩;rw [←hR] at HN ⊢;clear hR;have h256:∀ k,s.size≤k→bt s k=256:=tP s;have H256:=Lib.hid h256;have HIN:=Lib.hid (xU s);clear h256;go_enter Tryz.func142,Tryz.ntmps142;go_upto_region 3 with (go_at_call 67; refine (yP s _ 0 10 _ hs (by omega) (by omega) (by omega)).mono ?_; rintro e w' ⟨rfl,rfl⟩; rw [ha])
 go_cut [20] from 8 (fun s20 wx=>s20 = .bool (decide (bt s a=46))∧wx=w)
 case first=>
  by_cases hlt:a<s.size
  ·have HB0:Hid (bt s a=(s[a].toNat:Int)):=Lib.hid (HIN.out a hlt);cases h46:((s[a].toNat:Int)==46)
   ·go_wp2;go_meet;exact ⟨congrArg Value.bool (by rw [HB0.out]; simp at h46 ⊢; exact h46),rfl⟩
   ·go_wp2;go_meet;exact ⟨congrArg Value.bool (by rw [HB0.out]; simp at h46 ⊢; exact h46),rfl⟩
  ·go_wp2;go_meet;exact ⟨congrArg Value.bool (by rw [H256.out a (by omega)]; rfl),rfl⟩
 case rest=>
  obtain ⟨rfl,rfl⟩:=hcut;go_upto_if 20 with fail;go_cut [4,5,6] from 8 (fun s4 s5 s6 wx=>∃ (p:Nat) (kind:Int),s4 = .int .i64 p∧s5 = .int .i64 kind∧p≤s.size∧(kind=1∨kind=2)∧Hid (R=eF s p kind)∧wx=wc)
  case first=>
   by_cases h46:bt s a=46
   ·have hlt:=jMl h46 (by decide)
    have hd:decide (bt s a=46)=true:=decide_eq_true h46;rw [if_pos h46] at HN;clear h46;generalize decide (bt s a=46)=dd at *;subst hd;obtain ⟨b,hb⟩:∃ b,xX s (a+1) 10=b:=⟨_,rfl⟩;have hbl:b≤s.size - (a+1):=by rw [←hb]; exact jBe s _ 10
    rw [hb] at HN;by_cases ha0:a=0
    ·by_cases hb0:b=0
     ·have HE:Hid (R=0):=Lib.hid (by rw [HN.out,if_pos ⟨ha0,hb0⟩])
      clear HN;subst hb0;go_wp2_with (go_at_call 67; refine (yP s _ (a+1) 10 _ hs (by omega) (by omega) (by omega)).mono ?_; rintro e w' ⟨rfl,rfl⟩; rw [hb])
      go_ret;exact ⟨qD HE.out.symm,rfl⟩
     ·have HE:Hid (R=eF s (a+1+b) 2):=Lib.hid (by rw [HN.out,if_neg (fun h=>hb0 h.2)])
      have hab:((a:Int)==0)=true:=by simp [ha0]
      have hbb:((b:Int)==0)=false:=by simpa using hb0
      clear HN ha0 hb0;go_wp2_with (go_at_call 67; refine (yP s _ (a+1) 10 _ hs (by omega) (by omega) (by omega)).mono ?_; rintro e w' ⟨rfl,rfl⟩; rw [hb])
      go_meet;exact ⟨a+1+b,2,by go_num,rfl,by omega,.inr rfl,HE,rfl⟩
    ·have HE:Hid (R=eF s (a+1+b) 2):=Lib.hid (by rw [HN.out,if_neg (fun h=>ha0 h.1)])
     clear HN;go_wp2_with (go_at_call 67; refine (yP s _ (a+1) 10 _ hs (by omega) (by omega) (by omega)).mono ?_; rintro e w' ⟨rfl,rfl⟩; rw [hb])
     go_meet;exact ⟨a+1+b,2,by go_num,rfl,by omega,.inr rfl,HE,rfl⟩
   ·have hd:decide (bt s a=46)=false:=decide_eq_false h46;rw [if_neg h46] at HN;clear h46;generalize decide (bt s a=46)=dd at *;subst hd;by_cases ha0:a=0
    ·have HE:Hid (R=0):=Lib.hid (by rw [HN.out,if_pos ha0])
     go_wp2;go_ret;exact ⟨qD HE.out.symm,rfl⟩
    ·have HE:Hid (R=eF s a 1):=Lib.hid (by rw [HN.out,if_neg ha0])
     go_wp2;go_meet;exact ⟨a,1,rfl,rfl,hal,.inl rfl,HE,rfl⟩
  case rest=>
   clear HN;obtain ⟨p,kind,rfl,rfl,hp,hkd,HX,rfl⟩:=hcut;go_upto_region 10 with fail;go_cut [52] from 8 (fun s52 wx=>s52 = .bool (decide (bt s p=101∨bt s p=69))∧wx=wc)
   case first=>
    by_cases hlt:p<s.size
    ·have HB0:Hid (bt s p=(s[p].toNat:Int)):=Lib.hid (HIN.out p hlt);cases h101:((s[p].toNat:Int)==101)
     ·cases h69:((s[p].toNat:Int)==69)
      ·go_wp2;go_meet;exact ⟨congrArg Value.bool (decide_eq_false (by rw [HB0.out]; simp at h101 h69; omega)).symm,rfl⟩
      ·go_wp2;go_meet;exact ⟨congrArg Value.bool (decide_eq_true (by rw [HB0.out]; exact .inr (by simpa using h69))).symm,rfl⟩
     ·go_wp2;go_meet;exact ⟨congrArg Value.bool (decide_eq_true (by rw [HB0.out]; exact .inl (by simpa using h101))).symm,rfl⟩
    ·go_wp2;go_meet;exact ⟨congrArg Value.bool (decide_eq_false (by rw [H256.out p (by omega)]; decide)).symm,rfl⟩
   case rest=>
    obtain ⟨rfl,rfl⟩:=hcut;go_upto_if 52 with fail;go_cut [4,5,7] from 8 (fun s4 s5 s7 wx=>∃ (p:Nat) (kind:Int),s4 = .int .i64 p∧s5 = .int .i64 kind∧p≤s.size∧(kind=1∨kind=2)∧Hid (R=if p<s.size then 0 else kind)∧wx=wc)
    case first=>
     by_cases he:bt s p=101∨bt s p=69
     ·have hlt:p<s.size:=he.elim (fun h=>jMl h (by decide)) (fun h=>jMl h (by decide))
      have hd:decide (bt s p=101∨bt s p=69)=true:=decide_eq_true he;have HY:Hid (∀ q,(q=if bt s (p+1)=43∨bt s (p+1)=45 then p+2 else p+1)→R=if xX s q 10=0 then 0 else if q+xX s q 10<s.size then 0 else 2):=Lib.hid (fun q hq=>by rw [HX.out]; exact qHs s p q kind he hq)
      clear HX he;generalize decide (bt s p=101∨bt s p=69)=dd at *;subst hd;go_upto_region 12 with fail;go_cut [70] from 8 (fun s70 wx=>s70 = .bool (decide (bt s (p+1)=43∨bt s (p+1)=45))∧wx=wc)
      case first=>
       by_cases hlt1:p+1<s.size
       ·have HB0:Hid (bt s (p+1)=(s[p+1].toNat:Int)):=Lib.hid (HIN.out (p+1) hlt1);cases h43:((s[p+1].toNat:Int)==43)
        ·cases h45:((s[p+1].toNat:Int)==45)
         ·go_wp2;go_meet;exact ⟨congrArg Value.bool (decide_eq_false (by rw [HB0.out]; simp at h43 h45; omega)).symm,rfl⟩
         ·go_wp2;go_meet;exact ⟨congrArg Value.bool (decide_eq_true (by rw [HB0.out]; exact .inr (by simpa using h45))).symm,rfl⟩
        ·go_wp2;go_meet;exact ⟨congrArg Value.bool (decide_eq_true (by rw [HB0.out]; exact .inl (by simpa using h43))).symm,rfl⟩
       ·go_wp2;go_meet;exact ⟨congrArg Value.bool (decide_eq_false (by rw [H256.out (p+1) (by omega)]; decide)).symm,rfl⟩
      case rest=>
       obtain ⟨rfl,rfl⟩:=hcut;go_upto_if 70 with fail;go_cut [4] from 8 (fun s4 wx=>∃ q:Nat,s4 = .int .i64 q∧q≤s.size∧Hid (R=if xX s q 10=0 then 0 else if q+xX s q 10<s.size then 0 else 2)∧wx=wc)
       case first=>
        by_cases he:bt s (p+1)=43∨bt s (p+1)=45
        ·have hlt2:p+1<s.size:=he.elim (fun h=>jMl h (by decide)) (fun h=>jMl h (by decide))
         have hd:decide (bt s (p+1)=43∨bt s (p+1)=45)=true:=decide_eq_true he;have HZ:=Lib.hid (HY.out (p+2) (by rw [if_pos he]))
         clear he HY;generalize decide (bt s (p+1)=43∨bt s (p+1)=45)=dd at *;subst hd;go_wp2;go_meet;exact ⟨p+2,by go_num,by omega,HZ,rfl⟩
        ·have hd:decide (bt s (p+1)=43∨bt s (p+1)=45)=false:=decide_eq_false he;have HZ:=Lib.hid (HY.out (p+1) (by rw [if_neg he]))
         clear he HY;generalize decide (bt s (p+1)=43∨bt s (p+1)=45)=dd at *;subst hd;go_wp2;go_meet;exact ⟨p+1,by go_num,by omega,HZ,rfl⟩
       case rest=>
        clear HY;obtain ⟨q,rfl,hq,HQ,rfl⟩:=hcut;obtain ⟨m,hm⟩:∃ m,xX s q 10=m:=⟨_,rfl⟩;have hml:m≤s.size - q:=by rw [←hm]; exact jBe s _ 10
        rw [hm] at HQ;by_cases hm0:m=0
        ·have HE:Hid (R=0):=Lib.hid (by rw [HQ.out,if_pos hm0])
         subst hm0;go_wp2_with (go_at_call 67; refine (yP s _ q 10 _ hs (by omega) (by omega) (by omega)).mono ?_; rintro e w' ⟨rfl,rfl⟩; rw [hm])
         go_ret;exact ⟨qD HE.out.symm,rfl⟩
        ·have HE:Hid (R=if q+m<s.size then 0 else 2):=Lib.hid (by rw [HQ.out,if_neg hm0])
         go_wp2_with (go_at_call 67; refine (yP s _ q 10 _ hs (by omega) (by omega) (by omega)).mono ?_; rintro e w' ⟨rfl,rfl⟩; rw [hm])
         go_meet;exact ⟨q+m,2,by go_num,rfl,by omega,.inr rfl,HE,rfl⟩
     ·have hd:decide (bt s p=101∨bt s p=69)=false:=decide_eq_false he;have HE:Hid (R=if p<s.size then 0 else kind):=Lib.hid (by rw [HX.out,qLi s p kind he])
      clear HX he;generalize decide (bt s p=101∨bt s p=69)=dd at *;subst hd;go_wp2;go_meet;exact ⟨p,kind,rfl,rfl,hp,hkd,HE,rfl⟩
    case rest=>
     clear HX;obtain ⟨p2,kind2,rfl,rfl,hp2,hkd2,HE,rfl⟩:=hcut;by_cases hlt:p2<s.size
     ·have HF:Hid (R=0):=Lib.hid (by rw [HE.out,if_pos hlt])
      go_wp2;go_ret;exact ⟨qD HF.out.symm,rfl⟩
     ·have HF:Hid (R=kind2):=Lib.hid (by rw [HE.out,if_neg hlt])
      go_wp2;go_ret;exact ⟨qD HF.out.symm,rfl⟩
theorem jIk (s p:ByteArray) (h:s.size<p.size):zW s p=false:=by
 unfold zW Lib.hasPrefix;rw [Bool.eq_false_iff];intro e;have:=(List.isPrefixOf_iff_prefix.1 e).length_le;simp at this;omega
theorem jBs (s p:ByteArray) (h:p.size≤s.size):zW s p=((s.extract 0 p.size).toList==p.toList):=by
 rw [Bool.eq_iff_iff,beq_iff_eq];unfold zW Lib.hasPrefix;rw [List.isPrefixOf_iff_prefix,List.prefix_iff_eq_take,toL,toL];have e:(s.extract 0 p.size).data.toList=s.data.toList.take p.data.toList.length:=by simp
 rw [e];exact eq_comm
theorem jPk (s:ByteArray) (flow:Bool):∀ (f p:Nat),p≤s.size→vK s flow f p≤s.size
 | 0,p,h=>h
 | f+1,p,h=>by
  unfold vK;split
  ·split
   ·exact h
   ·rename_i h1 _;exact jPk s flow f (p+1) (by omega)
  ·exact h
set_option maxRecDepth 100000 in
set_option maxHeartbeats 2000000 in
theorem jKv (s:ByteArray) (flow:Bool) (w:World) (hs:s.size≤4200000000) :
  Calls Tryz.prog 104 #[.string s,.bool flow] w fun e w'=>e = .returned (.bool (vA s flow))∧Below w.heap.size w w':=by
 obtain ⟨R,hR⟩:∃ R,R=vA s flow:=⟨_,rfl⟩;rw [←hR];have HR:Hid (R=(xC s flow&&(uC s flow==s.size)&&qN s && !eS s 9 && !zW s ⟨#[45,45,45]⟩ && !zW s ⟨#[46,46,46]⟩)):=Lib.hid (by rw [hR,←jYy]; rfl)
 clear hR;have HB:∀ w,Hid (Calls Tryz.prog 138 #[.string s,.int .i64 0,.bool flow] w fun e w'=>e = .returned (.bool (xC s flow))∧w=w'):=fun w=>Lib.hid (jGq s flow w (by omega))
 have HP:∀ w,Hid (Calls Tryz.prog 139 #[.string s,.int .i64 0,.bool flow] w fun e w'=>e = .returned (.int .i64 (uC s flow:Nat))∧w=w'):=fun w=>Lib.hid (by have:=jPa s flow w (by omega); rw [jOr] at this; exact this)
 cases hb:xC s flow
 ·have HE:Hid (R=false):=Lib.hid (by rw [HR.out,hb]; rfl)
  rw [hb] at HB;go_enter Tryz.func104,Tryz.ntmps104;go_wp2_with (go_at_call 138; refine (HB _).out.mono ?_; rintro e w' ⟨rfl,rfl⟩);go_ret;exact ⟨jC HE.out.symm,Below.refl _ _⟩
 rw [hb] at HB;by_cases hp:uC s flow=s.size
 ·rw [hp] at HP;cases hsi:qN s
  ·have HE:Hid (R=false):=Lib.hid (by rw [HR.out,hsi]; simp)
   go_enter Tryz.func104,Tryz.ntmps104;go_wp2_with (first | (go_at_call 138; refine (HB _).out.mono ?_; rintro e w' ⟨rfl,rfl⟩) | (go_at_call 139; refine (HP _).out.mono ?_; rintro e w' ⟨rfl,rfl⟩) | (go_at_call 77; refine (vV s _ hs).mono ?_; rintro e w1 ⟨rfl,hb1⟩; rw [hsi]))
   go_ret;exact ⟨jC HE.out.symm,hb1⟩
  ·have HR2:Hid (R=(!eS s 9 && !zW s ⟨#[45,45,45]⟩ && !zW s ⟨#[46,46,46]⟩)):=Lib.hid (by rw [HR.out,hb,hp,hsi]; simp)
   clear HR;go_enter Tryz.func104,Tryz.ntmps104;go_wp2_with (first | (go_at_call 138; refine (HB _).out.mono ?_; rintro e w' ⟨rfl,rfl⟩) | (go_at_call 139; refine (HP _).out.mono ?_; rintro e w' ⟨rfl,rfl⟩) | (go_at_call 77; refine (vV s _ hs).mono ?_; rintro e w1 ⟨rfl,hb1⟩; rw [hsi]))
   go_loop [5] (fun v=>∃ k:Nat,v = .int .i64 k∧k≤s.size∧Hid (∀ x,x<k→bt s x≠9)) (fun v=>s.size - (intOf v).toNat)
   case atStart=>exact ⟨0,rfl,Nat.zero_le _,Lib.hid (fun x h=>absurd h (Nat.not_lt_zero _))⟩
   case round=>
    obtain ⟨k,rfl,hk,HK⟩:=hrel;by_cases hlt:k<s.size
    ·have HX:Hid (bt s k=(s[k].toNat:Int)):=Lib.hid (xU s k hlt);cases h9:((s[k].toNat:Int)==9)
     ·go_wp2;refine ⟨⟨k+1,by go_num,by omega,Lib.hid (fun x h=>?_)⟩,by simp [intOf]; omega⟩
      rcases Nat.lt_or_ge x k with h1 | h1
      ·exact HK.out x h1
      ·obtain rfl:x=k:=by omega
       rw [HX.out];simpa using h9
     ·have HE:Hid (R=false):=Lib.hid (by
       rw [HR2.out,(jDn s 9).2 ⟨k,hlt,by rw [HX.out]; simpa using h9⟩]; rfl)
      go_wp2;go_ret;exact ⟨jC HE.out.symm,hb1⟩
    ·have h9:eS s 9=false:=by
      rw [Bool.eq_false_iff,Ne,jDn];rintro ⟨x,hx,e⟩;exact HK.out x (by omega) e
     have HE:Hid (R=(!zW s ⟨#[45,45,45]⟩ && !zW s ⟨#[46,46,46]⟩)):=Lib.hid (by rw [HR2.out,h9]; rfl)
     clear HR2 h9 HK;by_cases h3:s.size<3
     ·have HF:Hid (R=true):=Lib.hid (by
       have q1:zW s ⟨#[45,45,45]⟩=false:=jIk s _ (by show s.size<3; exact h3)
       have q2:zW s ⟨#[46,46,46]⟩=false:=jIk s _ (by show s.size<3; exact h3)
       rw [HE.out,q1,q2]; rfl)
      go_wp2;go_ret;exact ⟨jC HF.out.symm,hb1⟩
     ·have P1:Hid (zW s ⟨#[45,45,45]⟩=((s.extract 0 3).toList==[45,45,45])):=Lib.hid (by rw [jBs s ⟨#[45,45,45]⟩ (show 3≤s.size by omega),toL ⟨#[45,45,45]⟩]; rfl)
      have P2:Hid (zW s ⟨#[46,46,46]⟩=((s.extract 0 3).toList==[46,46,46])):=Lib.hid (by rw [jBs s ⟨#[46,46,46]⟩ (show 3≤s.size by omega),toL ⟨#[46,46,46]⟩]; rfl)
      cases hq1:zW s ⟨#[45,45,45]⟩
      ·have d1:((s.extract 0 3).toList==[45,45,45])=false:=P1.out.symm.trans hq1;cases hq2:zW s ⟨#[46,46,46]⟩
       ·have d2:((s.extract 0 3).toList==[46,46,46])=false:=P2.out.symm.trans hq2;have HF:Hid (R=true):=Lib.hid (by rw [HE.out,hq1,hq2]; rfl)
        clear hq1 hq2;go_wp2;go_ret;exact ⟨jC HF.out.symm,hb1⟩
       ·have d2:((s.extract 0 3).toList==[46,46,46])=true:=P2.out.symm.trans hq2;have HF:Hid (R=false):=Lib.hid (by rw [HE.out,hq2]; simp)
        clear hq1 hq2;go_wp2;go_ret;exact ⟨jC (by rw [HF.out]; exact decide_eq_false (by omega)),hb1⟩
      ·have d1:((s.extract 0 3).toList==[45,45,45])=true:=P1.out.symm.trans hq1;have HF:Hid (R=false):=Lib.hid (by rw [HE.out,hq1]; rfl)
       clear hq1;go_wp2;go_ret;exact ⟨jC (by rw [HF.out]; exact decide_eq_false (by omega)),hb1⟩
 ·have HE:Hid (R=false):=Lib.hid (by rw [HR.out,show (uC s flow==s.size)=false by simpa using hp]; simp)
  have hpl:uC s flow≤s.size:=by rw [←jOr]; unfold zP; exact Nat.le_trans (jMk s _) (jPk s flow _ _ (Nat.zero_le _))
  generalize uC s flow=p at *;have hpb:((p:Int) != (s.size:Int))=true:=by simp; omega
  go_enter Tryz.func104,Tryz.ntmps104;go_wp2_with (first | (go_at_call 138; refine (HB _).out.mono ?_; rintro e w' ⟨rfl,rfl⟩) | (go_at_call 139; refine (HP _).out.mono ?_; rintro e w' ⟨rfl,rfl⟩))
  go_ret;exact ⟨jC HE.out.symm,Below.refl _ _⟩
theorem qAj {s:ByteArray} {l:List UInt8} (h:¬ s=⟨l.toArray⟩):(s.toList==l)=false:=by
 rw [toL,beq_eq_false_iff_ne];intro e;apply h;subst e;rfl
end
noncomputable section
set_option linter.all false
open Go.RowKit
theorem qHa (w:World):Calls Tryz.prog 106 #[.string ⟨#[]⟩] w fun e w'=>e = .returned (.string (yX ⟨#[]⟩))∧w=w':=by
 have HT:Hid (yX ⟨#[]⟩=yC++⟨#[110,117,108,108]⟩):=Lib.hid (by decide +kernel)
 go_enter Tryz.func106,Tryz.ntmps106;go_wp2_with (go_at_call 48; refine (jW _ _ (by decide)).mono ?_; rintro e w' ⟨rfl,rfl⟩)
 go_ret;exact ⟨jL (by rw [HT.out]; rfl),rfl⟩
theorem qHb (w:World):Calls Tryz.prog 106 #[.string ⟨#[110,117,108,108]⟩] w fun e w'=>e = .returned (.string (yX ⟨#[110,117,108,108]⟩))∧w=w':=by
 have HT:Hid (yX ⟨#[110,117,108,108]⟩=yC++⟨#[110,117,108,108]⟩):=Lib.hid (by decide +kernel)
 go_enter Tryz.func106,Tryz.ntmps106;go_wp2_with (go_at_call 48; refine (jW _ _ (by decide)).mono ?_; rintro e w' ⟨rfl,rfl⟩)
 go_ret;exact ⟨jL (by rw [HT.out]; rfl),rfl⟩
theorem qHc (w:World):Calls Tryz.prog 106 #[.string ⟨#[78,117,108,108]⟩] w fun e w'=>e = .returned (.string (yX ⟨#[78,117,108,108]⟩))∧w=w':=by
 have HT:Hid (yX ⟨#[78,117,108,108]⟩=yC++⟨#[110,117,108,108]⟩):=Lib.hid (by decide +kernel)
 go_enter Tryz.func106,Tryz.ntmps106;go_wp2_with (go_at_call 48; refine (jW _ _ (by decide)).mono ?_; rintro e w' ⟨rfl,rfl⟩)
 go_ret;exact ⟨jL (by rw [HT.out]; rfl),rfl⟩
theorem qHd (w:World):Calls Tryz.prog 106 #[.string ⟨#[78,85,76,76]⟩] w fun e w'=>e = .returned (.string (yX ⟨#[78,85,76,76]⟩))∧w=w':=by
 have HT:Hid (yX ⟨#[78,85,76,76]⟩=yC++⟨#[110,117,108,108]⟩):=Lib.hid (by decide +kernel)
 go_enter Tryz.func106,Tryz.ntmps106;go_wp2_with (go_at_call 48; refine (jW _ _ (by decide)).mono ?_; rintro e w' ⟨rfl,rfl⟩)
 go_ret;exact ⟨jL (by rw [HT.out]; rfl),rfl⟩
theorem qHe (w:World):Calls Tryz.prog 106 #[.string ⟨#[126]⟩] w fun e w'=>e = .returned (.string (yX ⟨#[126]⟩))∧w=w':=by
 have HT:Hid (yX ⟨#[126]⟩=yC++⟨#[110,117,108,108]⟩):=Lib.hid (by decide +kernel)
 go_enter Tryz.func106,Tryz.ntmps106;go_wp2_with (go_at_call 48; refine (jW _ _ (by decide)).mono ?_; rintro e w' ⟨rfl,rfl⟩)
 go_ret;exact ⟨jL (by rw [HT.out]; rfl),rfl⟩
theorem qHf (w:World):Calls Tryz.prog 106 #[.string ⟨#[116,114,117,101]⟩] w fun e w'=>e = .returned (.string (yX ⟨#[116,114,117,101]⟩))∧w=w':=by
 have HT:Hid (yX ⟨#[116,114,117,101]⟩=yC++⟨#[98,111,111,108]⟩):=Lib.hid (by decide +kernel)
 go_enter Tryz.func106,Tryz.ntmps106;go_wp2_with (go_at_call 48; refine (jW _ _ (by decide)).mono ?_; rintro e w' ⟨rfl,rfl⟩)
 go_ret;exact ⟨jL (by rw [HT.out]; rfl),rfl⟩
theorem qHg (w:World):Calls Tryz.prog 106 #[.string ⟨#[84,114,117,101]⟩] w fun e w'=>e = .returned (.string (yX ⟨#[84,114,117,101]⟩))∧w=w':=by
 have HT:Hid (yX ⟨#[84,114,117,101]⟩=yC++⟨#[98,111,111,108]⟩):=Lib.hid (by decide +kernel)
 go_enter Tryz.func106,Tryz.ntmps106;go_wp2_with (go_at_call 48; refine (jW _ _ (by decide)).mono ?_; rintro e w' ⟨rfl,rfl⟩)
 go_ret;exact ⟨jL (by rw [HT.out]; rfl),rfl⟩
theorem qHh (w:World):Calls Tryz.prog 106 #[.string ⟨#[84,82,85,69]⟩] w fun e w'=>e = .returned (.string (yX ⟨#[84,82,85,69]⟩))∧w=w':=by
 have HT:Hid (yX ⟨#[84,82,85,69]⟩=yC++⟨#[98,111,111,108]⟩):=Lib.hid (by decide +kernel)
 go_enter Tryz.func106,Tryz.ntmps106;go_wp2_with (go_at_call 48; refine (jW _ _ (by decide)).mono ?_; rintro e w' ⟨rfl,rfl⟩)
 go_ret;exact ⟨jL (by rw [HT.out]; rfl),rfl⟩
theorem qHi (w:World):Calls Tryz.prog 106 #[.string ⟨#[102,97,108,115,101]⟩] w fun e w'=>e = .returned (.string (yX ⟨#[102,97,108,115,101]⟩))∧w=w':=by
 have HT:Hid (yX ⟨#[102,97,108,115,101]⟩=yC++⟨#[98,111,111,108]⟩):=Lib.hid (by decide +kernel)
 go_enter Tryz.func106,Tryz.ntmps106;go_wp2_with (go_at_call 48; refine (jW _ _ (by decide)).mono ?_; rintro e w' ⟨rfl,rfl⟩)
 go_ret;exact ⟨jL (by rw [HT.out]; rfl),rfl⟩
theorem qHj (w:World):Calls Tryz.prog 106 #[.string ⟨#[70,97,108,115,101]⟩] w fun e w'=>e = .returned (.string (yX ⟨#[70,97,108,115,101]⟩))∧w=w':=by
 have HT:Hid (yX ⟨#[70,97,108,115,101]⟩=yC++⟨#[98,111,111,108]⟩):=Lib.hid (by decide +kernel)
 go_enter Tryz.func106,Tryz.ntmps106;go_wp2_with (go_at_call 48; refine (jW _ _ (by decide)).mono ?_; rintro e w' ⟨rfl,rfl⟩)
 go_ret;exact ⟨jL (by rw [HT.out]; rfl),rfl⟩
theorem qAv (w:World):Calls Tryz.prog 106 #[.string ⟨#[70,65,76,83,69]⟩] w fun e w'=>e = .returned (.string (yX ⟨#[70,65,76,83,69]⟩))∧w=w':=by
 have HT:Hid (yX ⟨#[70,65,76,83,69]⟩=yC++⟨#[98,111,111,108]⟩):=Lib.hid (by decide +kernel)
 go_enter Tryz.func106,Tryz.ntmps106;go_wp2_with (go_at_call 48; refine (jW _ _ (by decide)).mono ?_; rintro e w' ⟨rfl,rfl⟩)
 go_ret;exact ⟨jL (by rw [HT.out]; rfl),rfl⟩
theorem qAw (w:World):Calls Tryz.prog 106 #[.string ⟨#[46,110,97,110]⟩] w fun e w'=>e = .returned (.string (yX ⟨#[46,110,97,110]⟩))∧w=w':=by
 have HT:Hid (yX ⟨#[46,110,97,110]⟩=yC++⟨#[102,108,111,97,116]⟩):=Lib.hid (by decide +kernel)
 go_enter Tryz.func106,Tryz.ntmps106;go_wp2_with (go_at_call 48; refine (jW _ _ (by decide)).mono ?_; rintro e w' ⟨rfl,rfl⟩)
 go_ret;exact ⟨jL (by rw [HT.out]; rfl),rfl⟩
theorem qAx (w:World):Calls Tryz.prog 106 #[.string ⟨#[46,78,97,78]⟩] w fun e w'=>e = .returned (.string (yX ⟨#[46,78,97,78]⟩))∧w=w':=by
 have HT:Hid (yX ⟨#[46,78,97,78]⟩=yC++⟨#[102,108,111,97,116]⟩):=Lib.hid (by decide +kernel)
 go_enter Tryz.func106,Tryz.ntmps106;go_wp2_with (go_at_call 48; refine (jW _ _ (by decide)).mono ?_; rintro e w' ⟨rfl,rfl⟩)
 go_ret;exact ⟨jL (by rw [HT.out]; rfl),rfl⟩
theorem qAy (w:World):Calls Tryz.prog 106 #[.string ⟨#[46,78,65,78]⟩] w fun e w'=>e = .returned (.string (yX ⟨#[46,78,65,78]⟩))∧w=w':=by
 have HT:Hid (yX ⟨#[46,78,65,78]⟩=yC++⟨#[102,108,111,97,116]⟩):=Lib.hid (by decide +kernel)
 go_enter Tryz.func106,Tryz.ntmps106;go_wp2_with (go_at_call 48; refine (jW _ _ (by decide)).mono ?_; rintro e w' ⟨rfl,rfl⟩)
 go_ret;exact ⟨jL (by rw [HT.out]; rfl),rfl⟩
theorem qHy (u:ByteArray):sS u=((u.toList==[46,105,110,102])||(u.toList==[46,73,110,102])||(u.toList==[46,73,78,70])):=rfl
set_option maxRecDepth 100000 in
set_option maxHeartbeats 8000000 in
theorem jXt (s:ByteArray) (w:World) (hs:s.size≤4200000000) (h0:0<s.size) (n0:(s.toList==[])=false) (n1:(s.toList==[110,117,108,108])=false) (n2:(s.toList==[78,117,108,108])=false) (n3:(s.toList==[78,85,76,76])=false) (n4:(s.toList==[126])=false) (n5:(s.toList==[116,114,117,101])=false) (n6:(s.toList==[84,114,117,101])=false) (n7:(s.toList==[84,82,85,69])=false) (n8:(s.toList==[102,97,108,115,101])=false) (n9:(s.toList==[70,97,108,115,101])=false) (n10:(s.toList==[70,65,76,83,69])=false) (n11:(s.toList==[46,110,97,110])=false) (n12:(s.toList==[46,78,97,78])=false) (n13:(s.toList==[46,78,65,78])=false)
  (R:ByteArray) (HR:Hid (R=yC++if 2<s.size∧((zW s ⟨#[48,111]⟩=true∧vO s 8=true)∨(zW s ⟨#[48,120]⟩=true∧vO s 16=true)) then ⟨#[105,110,116]⟩ else if sS (uA s)=true then ⟨#[102,108,111,97,116]⟩ else iV (oI (uA s)))) :
  Calls Tryz.prog 106 #[.string s] w fun e w'=>e = .returned (.string R)∧w=w':=by
 have HIN:=Lib.hid (xU s 0 h0);have HU:Hid (uA s=if bt s 0=43∨bt s 0=45 then s.extract 1 s.size else s):=Lib.hid rfl
 have hul:=mZ s;obtain ⟨C,hC⟩:∃ C:Prop,C=(2<s.size∧((zW s ⟨#[48,111]⟩=true∧vO s 8=true)∨(zW s ⟨#[48,120]⟩=true∧vO s 16=true))):=⟨_,rfl⟩;have dC:Decidable C:=by rw [hC]; infer_instance
 have HR2:Hid (R=yC++if C then ⟨#[105,110,116]⟩ else if sS (uA s)=true then ⟨#[102,108,111,97,116]⟩ else iV (oI (uA s))):=Lib.hid (by
  rw [HR.out];by_cases h:C
  ·rw [if_pos h,if_pos (hC ▸ h)]
  ·rw [if_neg h,if_neg (hC ▸ h)])
 have HC:=Lib.hid hC;clear HR hC;go_enter Tryz.func106,Tryz.ntmps106;go_upto_region 19 with fail;go_cut [45] from 5 (fun s45 wx=>s45 = .bool (decide C)∧wx=w)
 case first=>
  by_cases h2:2<s.size
  ·have P1:Hid (zW s ⟨#[48,111]⟩=((s.extract 0 2).toList==[48,111])):=Lib.hid (by rw [jBs s ⟨#[48,111]⟩ (show 2≤s.size by omega),toL ⟨#[48,111]⟩]; rfl)
   have P2:Hid (zW s ⟨#[48,120]⟩=((s.extract 0 2).toList==[48,120])):=Lib.hid (by rw [jBs s ⟨#[48,120]⟩ (show 2≤s.size by omega),toL ⟨#[48,120]⟩]; rfl)
   have HX:Hid (zW s ⟨#[48,111]⟩=true→zW s ⟨#[48,120]⟩=false):=Lib.hid (fun h=>by
    rw [Bool.eq_false_iff];intro h';have e1:=((qDo s 48 111).1 h).2;have e2:=((qDo s 48 120).1 h').2;rw [e1] at e2; cases e2)
   have HW8:∀ w,Hid (Calls Tryz.prog 141 #[.string s,.int .i32 8] w fun e w'=>e = .returned (.bool (vO s 8))∧w=w'):=fun w=>Lib.hid (iI s 8 w hs (by omega) (by decide))
   have HW16:∀ w,Hid (Calls Tryz.prog 141 #[.string s,.int .i32 16] w fun e w'=>e = .returned (.bool (vO s 16))∧w=w'):=fun w=>Lib.hid (iI s 16 w hs (by omega) (by decide))
   cases ho:((s.extract 0 2).toList==[48,111])
   ·have qo:=Lib.hid (P1.out.trans ho);cases hx:((s.extract 0 2).toList==[48,120])
    ·have qx:=Lib.hid (P2.out.trans hx);go_wp2;go_meet;exact ⟨congrArg Value.bool (decide_eq_false (by rw [HC.out,qo.out,qx.out]; simp)).symm,rfl⟩
    ·have qx:=Lib.hid (P2.out.trans hx);cases h16:vO s 16
     ·rw [h16] at HW16;go_wp2_with (go_at_call 141; refine (HW16 _).out.mono ?_; rintro e w' ⟨rfl,rfl⟩);go_meet;exact ⟨congrArg Value.bool (decide_eq_false (by rw [HC.out,qo.out,h16]; simp)).symm,rfl⟩
     ·rw [h16] at HW16;go_wp2_with (go_at_call 141; refine (HW16 _).out.mono ?_; rintro e w' ⟨rfl,rfl⟩);go_meet;exact ⟨congrArg Value.bool (decide_eq_true (by rw [HC.out]; exact ⟨h2,.inr ⟨qx.out,h16⟩⟩)).symm,rfl⟩
   ·have qo:=Lib.hid (P1.out.trans ho);have qx:=Lib.hid (HX.out qo.out);have hx:=P2.out.symm.trans qx.out;cases h8:vO s 8
    ·rw [h8] at HW8;go_wp2_with (go_at_call 141; refine (HW8 _).out.mono ?_; rintro e w' ⟨rfl,rfl⟩);go_meet;exact ⟨congrArg Value.bool (decide_eq_false (by rw [HC.out,qx.out,h8]; simp)).symm,rfl⟩
    ·rw [h8] at HW8;go_wp2_with (go_at_call 141; refine (HW8 _).out.mono ?_; rintro e w' ⟨rfl,rfl⟩);go_meet;exact ⟨congrArg Value.bool (decide_eq_true (by rw [HC.out]; exact ⟨h2,.inl ⟨qo.out,h8⟩⟩)).symm,rfl⟩
  ·go_wp2;go_meet;exact ⟨congrArg Value.bool (decide_eq_false (by rw [HC.out]; exact fun h=>h2 h.1)).symm,rfl⟩
 case rest=>
  obtain ⟨rfl,rfl⟩:=hcut;by_cases hc:C
  ·have hd:decide C=true:=decide_eq_true hc;have HE:Hid (R=yC++⟨#[105,110,116]⟩):=Lib.hid (by rw [HR2.out,if_pos hc])
   clear HR2 hc HC;generalize decide C=dd at *;subst hd;go_wp2_with (go_at_call 48; refine (jW _ _ (by decide)).mono ?_; rintro e w' ⟨rfl,rfl⟩)
   go_ret;exact ⟨jL (by rw [HE.out]; rfl),rfl⟩
  ·have hd:decide C=false:=decide_eq_false hc;have HE:Hid (R=yC++if sS (uA s)=true then ⟨#[102,108,111,97,116]⟩ else iV (oI (uA s))):=Lib.hid (by rw [HR2.out,if_neg hc])
   clear HR2 hc HC;generalize decide C=dd at *;subst hd;go_upto_region 22 with fail;go_cut [55] from 5 (fun s55 wx=>s55 = .bool (decide (bt s 0=43∨bt s 0=45))∧wx=wc)
   case first=>
    cases h43:((s[0].toNat:Int)==43)
    ·cases h45:((s[0].toNat:Int)==45)
     ·go_wp2;go_meet;exact ⟨congrArg Value.bool (decide_eq_false (by rw [HIN.out]; simp at h43 h45; omega)).symm,rfl⟩
     ·go_wp2;go_meet;exact ⟨congrArg Value.bool (decide_eq_true (by rw [HIN.out]; exact .inr (by simpa using h45))).symm,rfl⟩
    ·go_wp2;go_meet;exact ⟨congrArg Value.bool (decide_eq_true (by rw [HIN.out]; exact .inl (by simpa using h43))).symm,rfl⟩
   case rest=>
    obtain ⟨rfl,rfl⟩:=hcut;go_upto_if 55 with fail;go_cut [3] from 5 (fun s3 wx=>s3 = .string (uA s)∧wx=wc)
    case first=>
     by_cases he:bt s 0=43∨bt s 0=45
     ·have hd:decide (bt s 0=43∨bt s 0=45)=true:=decide_eq_true he;have HU2:Hid (uA s=s.extract 1 s.size):=Lib.hid (by rw [HU.out,if_pos he])
      clear HU he;generalize decide (bt s 0=43∨bt s 0=45)=dd at *;subst hd;go_wp2;go_meet;exact ⟨by rw [HU2.out],rfl⟩
     ·have hd:decide (bt s 0=43∨bt s 0=45)=false:=decide_eq_false he;have HU2:Hid (uA s=s):=Lib.hid (by rw [HU.out,if_neg he])
      clear HU he;generalize decide (bt s 0=43∨bt s 0=45)=dd at *;subst hd;go_wp2;go_meet;exact ⟨by rw [HU2.out],rfl⟩
    case rest=>
     obtain ⟨rfl,rfl⟩:=hcut;clear HU;have hI:=qHy (uA s);generalize uA s=u at *;have HNu:∀ w,Hid (Calls Tryz.prog 142 #[.string u] w fun e w'=>e = .returned (.int .i64 (oI u))∧w=w'):=fun w=>Lib.hid (jSk u w (by omega))
     cases d1:(u.toList==[46,105,110,102])
     ·cases d2:(u.toList==[46,73,110,102])
      ·cases d3:(u.toList==[46,73,78,70])
       ·have HF:Hid (R=yC++iV (oI u)):=Lib.hid (by rw [HE.out,hI,d1,d2,d3]; rfl)
        clear HE hI;generalize oI u=z at *;cases z1:(z==1)
        ·cases z2:(z==2)
         ·have HG:Hid (R=yC++⟨#[115,116,114]⟩):=Lib.hid (by rw [HF.out,iV,if_neg (by simpa using z1),if_neg (by simpa using z2)])
          clear HF;go_wp2_with (first | (go_at_call 142; refine (HNu _).out.mono ?_; rintro e w' ⟨rfl,rfl⟩) | (go_at_call 48; refine (jW _ _ (by decide)).mono ?_; rintro e w' ⟨rfl,rfl⟩))
          go_ret;exact ⟨jL (by rw [HG.out]; rfl),rfl⟩
         ·have HG:Hid (R=yC++⟨#[102,108,111,97,116]⟩):=Lib.hid (by rw [HF.out,iV,if_neg (by simpa using z1),if_pos (by simpa using z2)])
          clear HF;go_wp2_with (first | (go_at_call 142; refine (HNu _).out.mono ?_; rintro e w' ⟨rfl,rfl⟩) | (go_at_call 48; refine (jW _ _ (by decide)).mono ?_; rintro e w' ⟨rfl,rfl⟩))
          go_ret;exact ⟨jL (by rw [HG.out]; rfl),rfl⟩
        ·have HG:Hid (R=yC++⟨#[105,110,116]⟩):=Lib.hid (by rw [HF.out,iV,if_pos (by simpa using z1)])
         clear HF;go_wp2_with (first | (go_at_call 142; refine (HNu _).out.mono ?_; rintro e w' ⟨rfl,rfl⟩) | (go_at_call 48; refine (jW _ _ (by decide)).mono ?_; rintro e w' ⟨rfl,rfl⟩))
         go_ret;exact ⟨jL (by rw [HG.out]; rfl),rfl⟩
       ·have HG:Hid (R=yC++⟨#[102,108,111,97,116]⟩):=Lib.hid (by rw [HE.out,hI,d1,d2,d3]; simp)
        clear HE hI;go_wp2_with (go_at_call 48; refine (jW _ _ (by decide)).mono ?_; rintro e w' ⟨rfl,rfl⟩)
        go_ret;exact ⟨jL (by rw [HG.out]; rfl),rfl⟩
      ·have HG:Hid (R=yC++⟨#[102,108,111,97,116]⟩):=Lib.hid (by rw [HE.out,hI,d1,d2]; simp)
       clear HE hI;go_wp2_with (go_at_call 48; refine (jW _ _ (by decide)).mono ?_; rintro e w' ⟨rfl,rfl⟩)
       go_ret;exact ⟨jL (by rw [HG.out]; rfl),rfl⟩
     ·have HG:Hid (R=yC++⟨#[102,108,111,97,116]⟩):=Lib.hid (by rw [HE.out,hI,d1]; simp)
      clear HE hI;go_wp2_with (go_at_call 48; refine (jW _ _ (by decide)).mono ?_; rintro e w' ⟨rfl,rfl⟩)
      go_ret;exact ⟨jL (by rw [HG.out]; rfl),rfl⟩
theorem qOy (s:ByteArray) (h1:¬ Lib.containsS uY s=true) (h2:¬ Lib.containsS uG s=true) (h3:¬ Lib.containsS bM s=true):yX s=yC++if 2<s.size∧((zW s ⟨#[48,111]⟩=true∧vO s 8=true)∨(zW s ⟨#[48,120]⟩=true∧vO s 16=true)) then ⟨#[105,110,116]⟩ else if sS (uA s)=true then ⟨#[102,108,111,97,116]⟩ else iV (oI (uA s)):=by
 unfold yX;rw [←qHk,qAu,if_neg h1,if_neg h2,if_neg h3]
theorem jOz (s:ByteArray) (w:World) (hs:s.size≤4200000000) :
  Calls Tryz.prog 106 #[.string s] w fun e w'=>e = .returned (.string (yX s))∧w=w':=by
 by_cases hnulls:Lib.containsS uY s=true
 ·have h:=(Lib.containsS_iff uY s).1 hnulls;simp only [uY,List.mem_cons,List.not_mem_nil,or_false] at h;rcases h with rfl | rfl | rfl | rfl | rfl
  ·exact qHa w
  ·exact qHb w
  ·exact qHc w
  ·exact qHd w
  ·exact qHe w
 by_cases hbools:Lib.containsS uG s=true
 ·have h:=(Lib.containsS_iff uG s).1 hbools;simp only [uG,List.mem_cons,List.not_mem_nil,or_false] at h;rcases h with rfl | rfl | rfl | rfl | rfl | rfl
  ·exact qHf w
  ·exact qHg w
  ·exact qHh w
  ·exact qHi w
  ·exact qHj w
  ·exact qAv w
 by_cases hnans:Lib.containsS bM s=true
 ·have h:=(Lib.containsS_iff bM s).1 hnans;simp only [bM,List.mem_cons,List.not_mem_nil,or_false] at h;rcases h with rfl | rfl | rfl
  ·exact qAw w
  ·exact qAx w
  ·exact qAy w
 have m:∀ (L:List ByteArray) (l:List UInt8),¬ Lib.containsS L s=true→(⟨l.toArray⟩:ByteArray)∈L→(s.toList==l)=false:=fun L l h hm=>qAj (fun e=>h ((Lib.containsS_iff L s).2 (by rw [e]; exact hm)))
 have h0:0<s.size:=by
  refine Nat.pos_of_ne_zero fun e=>hnulls ?_;have:s=⟨#[]⟩:=by
   apply ByteArray.ext;apply Array.eq_empty_of_size_eq_zero;exact e
  rw [this]; decide
 exact jXt s w hs h0 (m uY _ hnulls (by simp [uY])) (m uY _ hnulls (by simp [uY])) (m uY _ hnulls (by simp [uY])) (m uY _ hnulls (by simp [uY])) (m uY _ hnulls (by simp [uY])) (m uG _ hbools (by simp [uG])) (m uG _ hbools (by simp [uG])) (m uG _ hbools (by simp [uG])) (m uG _ hbools (by simp [uG])) (m uG _ hbools (by simp [uG])) (m uG _ hbools (by simp [uG])) (m bM _ hnans (by simp [bM])) (m bM _ hnans (by simp [bM])) (m bM _ hnans (by simp [bM])) _ (Lib.hid (qOy s hnulls hbools hnans))
end
end Go.Proofs.YtdlhiljbhepliaaGreatDoor
