/-
strconv.FormatInt at base 16: what it computes ('hexL').
-/
import Derived.Test.YtdlhiljbhepliaaGreatDoorPsA
import Derived.Laws.IdiomStrings
import Derived.Laws.Bits64b
import Derived.Lib.QuoteLoop
import Derived.Lib.CountLaws
namespace Go.Proofs.YtdlhiljbhepliaaGreatDoor
noncomputable section
set_option linter.all false
open Go.RowKit
def mL (k:Nat):UInt8:=if k<10 then (48+k).toUInt8 else (87+k).toUInt8
def jDp:Nat→Nat→List UInt8→List UInt8
 | 0,v,a=>mL v::a
 | f+1,v,a=>if 16≤v then jDp f (v / 16) (mL (v % 16)::a) else mL v::a
def eT (u:Nat):List UInt8:=jDp 16 u []
set_option maxHeartbeats 1000000 in
theorem qMr (w:World) (h:w.cell? ⟨5,15,none⟩=some (.int .u8 4)) :
  Calls Tryz.prog 235 #[.int .u64 16] w fun e w'=>e = .returned (.int .i64 4)∧w=w':=by
 have e0:bits BinOp.and IntKind.u64 16 (IntKind.u64.wrap (-16))=16:=by decide +kernel
 have e1:IntKind.u64.wrap (16*285870213051353865) / 288230376151711744=15:=by decide +kernel
 go_enter Tryz.func235,Tryz.ntmps235;go_wp2;go_ret;exact ⟨rfl,rfl⟩
theorem jQt (b o j:Nat):(⟨b,o,none⟩:Addr).add j=⟨b,o+j,none⟩:=by
 unfold Addr.add;cases j<;>simp
def jXe:Array Value:=Array.replicate 65 (.int .u8 0)
abbrev DIG:ByteArray:=⟨#[48,49,50,51,52,53,54,55,56,57,97,98,99,100,101,102,103,104,105,106,107,108,109,110,111,112,113,114,115,116,117,118,119,120,121,122]⟩
theorem qBf (k:Nat) (h:k<16) (h2:k<DIG.size):DIG[k]'h2=mL k:=by
 match k,h,h2 with
 | 0,_,_=>rfl | 1,_,_=>rfl | 2,_,_=>rfl | 3,_,_=>rfl | 4,_,_=>rfl | 5,_,_=>rfl | 6,_,_=>rfl | 7,_,_=>rfl | 8,_,_=>rfl | 9,_,_=>rfl | 10,_,_=>rfl | 11,_,_=>rfl | 12,_,_=>rfl | 13,_,_=>rfl | 14,_,_=>rfl | 15,_,_=>rfl
 | k+16,h,_=>omega
theorem qJp (w:World) (h:Hid (w.cell? ⟨5,15,none⟩=some (.int .u8 4))) :
  Calls Tryz.prog 235 #[.int .u64 16] w fun e w'=>e = .returned (.int .i64 4)∧w=w':=qMr w h.out
set_option maxRecDepth 100000 in
set_option maxHeartbeats 2000000 in
theorem qAh (u:Nat) (hu:u<1048576) (w:World) (hg:5<w.heap.size) (hc:Hid (w.cell? ⟨5,15,none⟩=some (.int .u8 4))) :
  Calls Tryz.prog 220 #[.slice none 0 0,.int .u64 u,.int .i64 16,.bool false,.bool false] w fun e w'=>∃ v,e = .returned (.tuple #[v,.string ⟨(eT u).toArray⟩])∧Below w.heap.size w w':=by
 have e2:bits BinOp.and IntKind.i64 16 15=0:=by decide +kernel
 have HZ:Hid (Tryz.zeroCells221=jXe):=Lib.hid (by kernel_rfl)
 go_enter Tryz.func220,Tryz.ntmps220;go_wp2_with (first | (go_at_call 235; refine (qJp _ (Lib.hid ?_)).mono ?_; rotate_left; rintro e w' ⟨rfl,rfl⟩) | go_in)
 ·go_loopw [1,13] (fun vu vi wr=>∃ (v i:Nat) (l:List UInt8),vu = .int .u64 v∧vi = .int .i64 i∧i+l.length=65∧l.length≤5∧v<16^(5 - l.length)∧Below w.heap.size w wr ∧
   (∀ t:Nat,t<i→wr.cell? ⟨w.heap.size,t,none⟩=some (.int .u8 0))∧(∀ t:Nat,t<65→wr.frozen? ⟨w.heap.size,t,none⟩=false) ∧
   Hid ((∀ (j:Nat) (h:j<l.length),wr.cell? ⟨w.heap.size,i+j,none⟩=some (.int .u8 (l[j].toNat:Int)))∧eT u=jDp (16 - l.length) v l)) (fun vu _ _=>(intOf vu).toNat)
  case atStart=>
   refine ⟨u,65,[],rfl,rfl,rfl,Nat.zero_le _,hu,(Below.refl _ _).alloc (Nat.le_refl _) _,fun t ht=>?_,fun t ht=>World.frozen?_alloc_new _ _ _ _,Lib.hid ⟨fun j hj=>absurd hj (Nat.not_lt_zero _),rfl⟩⟩;rw [HZ.out,World.cell?_alloc_new,jXe,Array.getElem?_replicate,if_pos ht]
  case round=>
   obtain ⟨v,i,l,rfl,rfl,hi,hl,hv,hb,hz0,hf0,HI⟩:=hrel;by_cases h16:16≤v
   ·have hv5:v<1048576:=Nat.lt_of_lt_of_le hv (Nat.pow_le_pow_right (by decide) (by omega):16^(5 - l.length)≤16^5)
    have hand:bits BinOp.and IntKind.u64 v 15=((v % 16:Nat):Int):=by
     have:=bits_and_u64_nat v 15 (by omega) (by decide)
     rw [Nat.and_two_pow_sub_one_eq_mod v 4] at this;exact this
    have hc0:=hz0 (i - 1) (by omega)
    have hf1:=hf0 (i - 1) (by omega)
    have h36:v % 16<DIG.size:=by show v % 16<36; omega
    have HD:Hid ((DIG[v % 16]'h36).toNat=(mL (v % 16)).toNat):=Lib.hid (by rw [qBf _ (Nat.mod_lt _ (by decide))])
    go_wp2;generalize (DIG[v % 16]'h36).toNat=x at HD ⊢;refine ⟨⟨v / 16,i - 1,mL (v % 16)::l,by go_num,by go_num,by simp; omega,?_,?_,hb.setCell (Nat.le_refl _) _,fun t ht=>?_,fun t ht=>?_,Lib.hid ⟨fun j hj=>?_,?_⟩⟩,by simp [intOf]; omega⟩
    ·obtain ⟨m,hm⟩:∃ m,5 - l.length=m+1:=⟨4 - l.length,by
      have:¬ 5 - l.length=0:=fun h0=>by rw [h0] at hv; omega
      omega⟩
     have hm1:¬ m=0:=fun h0=>by rw [hm,h0] at hv; omega
     simp; omega
    ·obtain ⟨m,hm⟩:∃ m,5 - l.length=m+1:=⟨4 - l.length,by
      have:¬ 5 - l.length=0:=fun h0=>by rw [h0] at hv; omega
      omega⟩
     rw [hm,Nat.pow_succ] at hv;rw [List.length_cons,show 5 - (l.length+1)=m from by omega]
     omega
    ·rw [World.cell?_setCell_other _ _ _ _ (by first | (simp; done) | (simp; omega))]
     exact hz0 t (by omega)
    ·rw [World.frozen?_setCell];exact hf0 t ht
    ·cases j with
     | zero=>
      have:=World.cell?_setCell_same wr ⟨w.heap.size,i - 1,none⟩ (.int .u8 (x:Int)) hc0;rw [HD.out] at this;rw [HD.out];exact this
     | succ j=>
      rw [World.cell?_setCell_other _ _ _ _ (by first | (simp; done) | (simp; omega)),show i - 1+(j+1)=i+j from by omega]
      exact HI.out.1 j (by simpa using hj)
    ·rw [HI.out.2,List.length_cons,show 16 - l.length=(16 - (l.length+1))+1 from by omega,jDp,if_pos h16]
   ·have hc0:=hz0 (i - 1) (by omega)
    have hf1:=hf0 (i - 1) (by omega)
    have h36:v<DIG.size:=by show v<36; omega
    have HD:Hid ((DIG[v]'h36).toNat=(mL v).toNat):=Lib.hid (by rw [qBf _ (by omega)])
    have hal:Tryz.prog.arrayLen 221=65:=by simp [Program.arrayLen,Tryz.underlying221]
    have hsl:∀ W,(Instr.sliceAt 221 (.pointer (some ⟨w.heap.size,0,none⟩)) (some (.int .i64 ((i:Int) - 1))) none none).run Tryz.prog W = .ok (.slice (some ⟨w.heap.size,i - 1,none⟩) (l.length+1) (l.length+1)) W:=fun W=>by
     rw [run_sliceAt_array_l W 221 ⟨w.heap.size,0,none⟩ (by simp [Program.arrayLen,Program.elem,Tryz.underlying221]) .i64 ((i:Int) - 1) (by omega) (by rw [hal]; omega)]
     go_simp;omega
    clear hal;have hcv:(convert 104 9 (.slice (some ⟨w.heap.size,i - 1,none⟩) (l.length+1) (l.length+1))).run Tryz.prog (wr.setCell ⟨w.heap.size,i - 1,none⟩ (.int .u8 ((DIG[v]'h36).toNat:Int))) = .ok (.string ⟨(mL v::l).toArray⟩) (wr.setCell ⟨w.heap.size,i - 1,none⟩ (.int .u8 ((DIG[v]'h36).toNat:Int))):=by
     refine run_convert_bytes_back (P:=Tryz.prog) _ 104 9 5 ⟨w.heap.size,i - 1,none⟩ (l.length+1) (mL v::l) Tryz.underlying104 Tryz.underlying5 Tryz.underlying9 fun j hj=>?_;rw [HD.out,jQt];cases j with
     | zero=>exact World.cell?_setCell_same wr ⟨w.heap.size,i - 1,none⟩ (.int .u8 ((mL v).toNat:Int)) hc0
     | succ j=>
      rw [World.cell?_setCell_other _ _ _ _ (by first | (simp; done) | (simp; omega)),show i - 1+(j+1)=i+j from by omega]
      exact HI.out.1 j (by simpa using hj)
    go_wp2;go_ret2;refine ⟨.slice none 0 0,?_,hb.setCell (Nat.le_refl _) _⟩;have:eT u=mL v::l:=by rw [HI.out.2,show 16 - l.length=(15 - l.length)+1 from by omega,jDp,if_neg h16]
    rw [this];rfl
 ·rw [←hc.out];exact Below.cell ((Below.refl _ _).alloc (Nat.le_refl _) _) hg
set_option maxHeartbeats 1000000 in
theorem jUp (u:Nat) (hu:u<1048576) (w:World) (hg:5<w.heap.size) (hc:Hid (w.cell? ⟨5,15,none⟩=some (.int .u8 4))) :
  Calls Tryz.prog 169 #[.int .i64 u,.int .i64 16] w fun e w'=>e = .returned (.string ⟨(eT u).toArray⟩)∧Below w.heap.size w w':=by
 have d1:decide ((u:Int)<0)=false:=by simp
 have e1:IntKind.u64.wrap (u:Int)=u:=by rw [IntKind.wrap_u64]; omega
 go_enter Tryz.func169,Tryz.ntmps169;go_wp2_with (first | (go_at_call 220; refine (qAh u hu _ hg hc).mono ?_; rintro e w' ⟨v,rfl,hb⟩) | go_in)
 go_ret;exact ⟨rfl,hb⟩
end
noncomputable section
set_option linter.all false
open Go.RowKit
def jNt (r:Nat):ByteArray:=⟨(eT r).toArray⟩
def uD (r:Nat):ByteArray:=if r=34 then ⟨#[92,34]⟩ else if r=92 then ⟨#[92,92]⟩ else if r=0 then ⟨#[92,48]⟩ else if r=27 then ⟨#[92,101]⟩ else if 7≤r∧r≤13 then ⟨#[92]⟩++(⟨#[97,98,116,110,118,102,114]⟩:ByteArray).extract (r - 7) (r - 6) else ⟨#[]⟩
def mI (r:Nat):ByteArray:=if r≤255 then ⟨#[92,120]⟩++(⟨#[48,48]⟩:ByteArray).extract (min ((eT r).length:Int) 2).toNat 2++jNt r else ⟨#[92,117]⟩++(⟨#[48,48,48,48]⟩:ByteArray).extract (eT r).length 4++jNt r
def qE (r:Nat):ByteArray:=if uD r=⟨#[]⟩ then (if zF r=true then Utf8.encode r else mI r) else uD r
theorem jUs:∀ (f k v:Nat) (a:List UInt8),v<16^(k+1)→(jDp f v a).length≤a.length+k+1
 | 0,k,v,a,h=>by simp [jDp]
 | f+1,k,v,a,h=>by
  unfold jDp;split
  ·rename_i h16;cases k with
   | zero=>omega
   | succ k=>
    have:=jUs f k (v / 16) (mL (v % 16)::a) (by rw [Nat.pow_succ] at h; omega)
    simp at this;omega
  ·simp
theorem jKj {r:Nat} (h:r<65536):(eT r).length≤4:=by have:=jUs 16 3 r [] h; simpa [eT] using this
set_option maxRecDepth 100000 in
set_option maxHeartbeats 2000000 in
theorem hN (r:Nat) (hr:r≤1114111) (w:World) :
  Calls Tryz.prog 129 #[.int .i32 r] w fun e w'=>e = .returned (.string (uD r))∧w=w':=by
 by_cases h1:r=34
 ·subst h1;go_enter Tryz.func129,Tryz.ntmps129;go_wp2;go_ret;exact ⟨jL (by decide +kernel),rfl⟩
 ·by_cases h2:r=92
  ·subst h2;go_enter Tryz.func129,Tryz.ntmps129;go_wp2;go_ret;exact ⟨jL (by decide +kernel),rfl⟩
  ·have n1:((r:Int)==34)=false:=by simp; omega
   have n2:((r:Int)==92)=false:=by simp; omega
   by_cases h7:7≤r∧r≤13
   ·have HE:Hid (uD r=⟨#[92]⟩++(⟨#[97,98,116,110,118,102,114]⟩:ByteArray).extract (r - 7) (r - 6)):=Lib.hid (by unfold uD; rw [if_neg h1,if_neg h2,if_neg (by omega),if_neg (by omega),if_pos h7])
    have n3:((r:Int)==0)=false:=by simp; omega
    have n4:((r:Int)==27)=false:=by simp; omega
    have e1:((r:Int) - 7).toNat=r - 7:=by omega
    have e2:((r:Int) - 6).toNat=r - 6:=by omega
    go_enter Tryz.func129,Tryz.ntmps129;go_wp2;go_ret;exact ⟨jL HE.out.symm,rfl⟩
   ·go_enter Tryz.func129,Tryz.ntmps129;go_wp2
    all_goals go_ret
    all_goals exact ⟨jL (by unfold uD; simp_all; first | done | (intro hh; omega) | (rw [if_neg (by omega),if_neg (by omega)])),rfl⟩
set_option maxHeartbeats 2000000 in
theorem jXs (r:Nat) (hr:r<65536) (w:World) (hg:5<w.heap.size) (hc:Hid (w.cell? ⟨5,15,none⟩=some (.int .u8 4))) :
  Calls Tryz.prog 130 #[.int .i32 r] w fun e w'=>e = .returned (.string (mI r))∧Below w.heap.size w w':=by
 have hl:=jKj hr;have hz:(⟨(eT r).toArray⟩:ByteArray).size=(eT r).length:=by simp [ByteArray.size]
 by_cases h255:r≤255
 ·go_enter Tryz.func130,Tryz.ntmps130;go_wp2_with (first | (go_at_call 169; refine (jUp r (by omega) _ hg hc).mono ?_; rintro e w' ⟨rfl,hb⟩) | go_in)
  go_ret;exact ⟨jL (by unfold mI; rw [if_pos h255]; rfl),hb⟩
 ·go_enter Tryz.func130,Tryz.ntmps130;go_wp2_with (first | (go_at_call 169; refine (jUp r (by omega) _ hg hc).mono ?_; rintro e w' ⟨rfl,hb⟩) | go_in)
  go_ret;exact ⟨jL (by unfold mI; rw [if_neg h255]; rfl),hb⟩
theorem qMm {s:ByteArray} (h:¬ s=⟨#[]⟩):s.toList.isEmpty=false:=by
 rw [Lib.toList_data];cases hs:s.data.toList with
 | nil=>
  refine absurd ?_ h;apply ByteArray.ext;apply Array.toList_inj.1;rw [hs]
 | cons a r=>rfl
theorem sF {r:Nat} (hv:Lib.validRune r=true) (h:65536≤r):zF r=true:=by
 simp [Lib.validRune] at hv;simp [zF];omega
set_option maxRecDepth 100000 in
set_option maxHeartbeats 2000000 in
theorem jPl (r:Nat) (hv:Lib.validRune r=true) (w:World) (hg:5<w.heap.size) (hc:Hid (w.cell? ⟨5,15,none⟩=some (.int .u8 4))) :
  Calls Tryz.prog 91 #[.int .i32 r] w fun e w'=>e = .returned (.string (qE r))∧Below w.heap.size w w':=by
 have hr:r≤1114111:=by simp [Lib.validRune] at hv; omega
 have HV:=Lib.hid hv;clear hv;by_cases hl:uD r=⟨#[]⟩
 ·cases hp:zF (r:Int)
  ·have h5:r<65536:=by
    rcases Nat.lt_or_ge r 65536 with h | h
    ·exact h
    ·rw [sF HV.out h] at hp; cases hp
   have HE:Hid (qE r=mI r):=Lib.hid (by unfold qE; rw [if_pos hl,if_neg (by simp [hp])])
   go_enter Tryz.func91,Tryz.ntmps91;go_wp2_with (first | (go_at_call 128; refine (Tryz.qValidRune _ _).mono ?_; rintro e w' ⟨rfl,rfl⟩; rw [HV.out]) | (go_at_call 129; refine (hN r hr _).mono ?_; rintro e w' ⟨rfl,rfl⟩; rw [hl]) | (go_at_call 124; refine (fX _ _).mono ?_; rintro e w' ⟨rfl,rfl⟩; rw [hp]) | (go_at_call 130; refine (jXs r h5 _ hg hc).mono ?_; rintro e w' ⟨rfl,hb⟩))
   go_ret;exact ⟨jL HE.out.symm,hb⟩
  ·have HE:Hid (qE r=Utf8.encode r):=Lib.hid (by unfold qE; rw [if_pos hl,if_pos hp])
   go_enter Tryz.func91,Tryz.ntmps91;go_wp2_with (first | (go_at_call 128; refine (Tryz.qValidRune _ _).mono ?_; rintro e w' ⟨rfl,rfl⟩; rw [HV.out]) | (go_at_call 129; refine (hN r hr _).mono ?_; rintro e w' ⟨rfl,rfl⟩; rw [hl]) | (go_at_call 124; refine (fX _ _).mono ?_; rintro e w' ⟨rfl,rfl⟩; rw [hp]))
   go_ret;exact ⟨jL HE.out.symm,Below.refl _ _⟩
 ·have HE:Hid (qE r=uD r):=Lib.hid (by unfold qE; rw [if_neg hl])
  have hz:(uD r).toList.isEmpty=false:=qMm hl;go_enter Tryz.func91,Tryz.ntmps91;go_wp2_with (first | (go_at_call 128; refine (Tryz.qValidRune _ _).mono ?_; rintro e w' ⟨rfl,rfl⟩; rw [HV.out]) | (go_at_call 129; refine (hN r hr _).mono ?_; rintro e w' ⟨rfl,rfl⟩))
  go_ret;exact ⟨jL HE.out.symm,Below.refl _ _⟩
end
noncomputable section
set_option linter.all false
open Go.RowKit
def zR (s:ByteArray):Nat→Nat→List UInt8
 | 0,_=>[]
 | f+1,p=>if p<s.size then (qE (Utf8.decode s p).1).data.toList++zR s f (p+(Utf8.decode s p).2) else []
def pJ (s:ByteArray):ByteArray:=⟨(Lib.replaceAll s.data.toList [39] [39,39]).toArray⟩
def xQ (s:ByteArray) (single:Bool):ByteArray:=if single=true∧qN s=true then ⟨#[39]⟩++pJ s++⟨#[39]⟩ else ⟨(34::(zR s s.size 0++[34])).toArray⟩
theorem iK:∀ (k:Nat) (s:List UInt8),(Lib.replaceK [39] [39,39] k s).length≤s.length+2*k
 | 0,s=>by simp [Lib.replaceK]
 | k+1,s=>by
  unfold Lib.replaceK;split
  ·omega
  ·have:=iK k (s.drop ((Lib.index s [39]).toNat+[39].length));simp only [List.length_append,List.length_take,List.length_drop,List.length_cons,List.length_nil] at this ⊢;omega
theorem jFb (s:ByteArray):(pJ s).size≤3*s.size+2:=by
 have h1:(pJ s).size=(Lib.replaceAll s.data.toList [39] [39,39]).length:=by simp [pJ,ByteArray.size]
 have h2:=Lib.count_le s.data.toList [39];have h3:s.data.toList.length=s.size:=by simp
 rw [h1,Lib.replaceAll,Lib.replace];split
 ·omega
 ·have:=iK (Lib.replaceNum s.data.toList [39] (-1)) s.data.toList;have h4:Lib.replaceNum s.data.toList [39] (-1)=Lib.count s.data.toList [39]:=by unfold Lib.replaceNum; rw [if_pos (.inl (by decide))]
  omega
structure Kn (w:World):Prop where
 tab:Hid (Lib.Utf8Tabs 1 2 w)
 db:Hid (w.cell? ⟨5,15,none⟩=some (.int .u8 4))
 dl:5<w.heap.size
 ml:Hid (∃ m,w.cell? ⟨0,0,none⟩=some (.int .i64 m))
 mll:0<w.heap.size
theorem Kn.below {w w':World} (h:Kn w) (hb:Below w.heap.size w w'):Kn w':=
 ⟨Lib.hid (gN h.tab.out hb),Lib.hid ((hb.cell (p:=⟨5,15,none⟩) h.dl).trans h.db.out),Nat.lt_of_lt_of_le h.dl hb.size,Lib.hid (by obtain ⟨m,hm⟩:=h.ml.out; exact ⟨m,(hb.cell (p:=⟨0,0,none⟩) h.mll).trans hm⟩),Nat.lt_of_lt_of_le h.mll hb.size⟩
set_option maxRecDepth 100000 in
set_option maxHeartbeats 2000000 in
theorem qMb (s:ByteArray) (w:World) (hs:s.size≤4200000000) (hk:Kn w) (h1:qN s=true) :
  Calls Tryz.prog 59 #[.string s,.bool true] w fun e w'=>e = .returned (.string (xQ s true))∧Below w.heap.size w w':=by
 have HE:Hid (xQ s true=⟨#[39]⟩++pJ s++⟨#[39]⟩):=Lib.hid (by unfold xQ; rw [if_pos ⟨rfl,h1⟩])
 have hz:=jFb s;have HR:Hid (pJ s=⟨(Lib.replaceAll s.data.toList (⟨#[39]⟩:ByteArray).data.toList (⟨#[39,39]⟩:ByteArray).data.toList).toArray⟩):=Lib.hid rfl;have hcl:Lib.countB s ⟨#[39]⟩≤s.size+1:=by
  have h2:=Lib.count_le s.data.toList [39];have h3:s.data.toList.length=s.size:=by simp
  rw [h3] at h2;exact h2
 go_enter Tryz.func59,Tryz.ntmps59;go_wp2_with (first
  | (go_at_call 87; refine (aE s _ (by omega) hk.tab).mono ?_; rintro e w1 ⟨rfl,hb1⟩; rw [h1])
  | (go_at_call 88; obtain ⟨m,hm⟩:=(hk.below hb1).ml.out; refine (Tryz.qReplaceAll s ⟨#[39]⟩ ⟨#[39,39]⟩ m _ (by omega) hm (by decide) (by rw [show (⟨#[39,39]⟩:ByteArray).size=2 from rfl]; omega)).mono ?_; rintro e w2 ⟨rfl,hb2⟩; rw [←HR.out]))
 go_ret;exact ⟨jL HE.out.symm,hb1.trans (hb2.mono hb1.size)⟩
theorem rQ (s:ByteArray) (p:Nat):Lib.validRune ((Utf8.decode s p).1:Int)=true:=by
 have h:=Lib.decodeN_valid (s.size - p) (s.get! p).toNat (s.get! (p+1)).toNat (s.get! (p+2)).toNat (s.get! (p+3)).toNat (UInt8.toNat_lt _);rw [←Lib.decode_at] at h;simp only [Lib.validRune,decide_eq_true_eq];omega
theorem jNb (r:Int):(Utf8.encode r).size≤4:=by
 unfold Utf8.encode;simp only
 repeat' split
 all_goals simp [ByteArray.size]
theorem sK (r:Nat) (hv:Lib.validRune r=true):(qE r).size≤16:=by
 unfold qE;split
 ·split
  ·have:=jNb r; omega
  ·rename_i hp;have h5:r<65536:=by
    rcases Nat.lt_or_ge r 65536 with h | h
    ·exact h
    ·exact absurd (sF hv h) hp
   have:=jKj h5;have hz:(jNt r).size=(eT r).length:=by simp [jNt,ByteArray.size]
   have z1:(⟨#[92,120]⟩:ByteArray).size=2:=rfl;have z2:(⟨#[92,117]⟩:ByteArray).size=2:=rfl;have z3:(⟨#[48,48]⟩:ByteArray).size=2:=rfl;have z4:(⟨#[48,48,48,48]⟩:ByteArray).size=4:=rfl;unfold mI;split
   ·rw [ByteArray.size_append,ByteArray.size_append,ByteArray.size_extract]; omega
   ·rw [ByteArray.size_append,ByteArray.size_append,ByteArray.size_extract]; omega
 ·have z1:(⟨#[92]⟩:ByteArray).size=1:=rfl;have z2:(⟨#[97,98,116,110,118,102,114]⟩:ByteArray).size=7:=rfl;have z3:(⟨#[]⟩:ByteArray).size=0:=rfl;unfold uD
  repeat' split
  all_goals first | (show (2:Nat)≤16; decide) | (rw [ByteArray.size_append,ByteArray.size_extract]; omega) | omega
theorem tA {T e:TypeId} {B b:Nat} {bs:List Value} {w w':World} (h:Lib.IsBuilderF T e B b bs w) (hb:Below w.heap.size w w'):Lib.IsBuilderF T e B b bs w':=by
 have key:∀ p,Lib.BuilderAtF T e B b p bs w→Lib.BuilderAtF T e B b p bs w':=by
  rintro p ⟨hB,v,h1,hown,hne⟩;refine ⟨hB,v,(hb.block _ (lt_of_block h1)).trans h1,⟨hown.1,?_⟩,hne⟩;rcases hown.2 with hn | ⟨g,cap,cur,fz,hv,hbg,hg,rest⟩
  ·exact .inl hn
  ·exact .inr ⟨g,cap,cur,fz,hv,hbg,(hb.block _ (lt_of_block hg)).trans hg,rest⟩
 exact h.elim (fun x=>.inl (key _ x)) (fun x=>.inr (key _ x))
set_option maxRecDepth 100000 in
set_option maxHeartbeats 4000000 in
theorem qBg (s:ByteArray) (single:Bool) (w:World) (hs:s.size≤4200000000) (hk:Kn w) (h1:single=true→qN s=false) :
  Calls Tryz.prog 59 #[.string s,.bool single] w fun e w'=>e = .returned (.string (xQ s single))∧Below w.heap.size w w':=by
 have HE:Hid (xQ s single=⟨(34::(zR s s.size 0++[34])).toArray⟩):=Lib.hid (by
  unfold xQ;rw [if_neg];rintro ⟨q1,q2⟩;rw [h1 q1] at q2; cases q2)
 have hpost:∀ w',Below w.heap.size w w'→Below w.heap.size w w':=fun _ h=>h;cases single
 ·clear h1;go_enter Tryz.func59,Tryz.ntmps59;go_wp2_with (go_at_call 89; refine (Tryz.qWriteByte w.heap.size w.heap.size [] 34 _ (.of (Lib.fresh_isBuilder _ _ w)) (by decide) (by simp)).mono ?_; rintro e w2 ⟨rfl,hq,hb2, -⟩)
  have hbw2:Below w.heap.size w w2:=((Below.refl _ _).alloc (Nat.le_refl _) _).trans hb2;have hlt:w.heap.size<w2.heap.size:=by have:=hb2.size; simp at this; omega
  clear hb2;go_loopw [] (fun wr=>∃ (pos fuel:Nat) (l:List UInt8),wr.heap[w2.heap.size]?=some (.stringIter s pos)∧Lib.IsBuilderF 106 5 w.heap.size w.heap.size (Lib.byteCells l) wr∧Below w.heap.size w wr∧Hid (34::zR s s.size 0=l++zR s fuel pos)∧s.size≤pos+fuel∧pos≤s.size∧l.length≤1+16*pos) (fun wr=>s.size - wr.iterPos w2.heap.size)
  case atStart=>exact ⟨0,s.size,[34],World.iter_heap w2 s 0,hq.alloc _,hbw2.alloc hbw2.size _,Lib.hid rfl,by omega,by omega,by simp⟩
  case round=>
   obtain ⟨pos,fuel,l,hit,hq,hbw,HS,hfu,hpt,hl⟩:=hrel;have hpos0:=iterPos_of hit;by_cases hp:pos<s.size
   ·have hnx:∀ ty,(Instr.next (.pointer (some ⟨w2.heap.size,0,none⟩)) true ty).run Tryz.prog wr=_:=fun ty=>Lib.run_next_any_at wr w2.heap.size s pos ty hit hp
    have hwd:=Lib.decode_width_pos s pos hp;have hd1:=kJ s pos hp;have hdv:=rQ s pos;obtain ⟨f,rfl⟩:∃ f,fuel=f+1:=⟨fuel - 1,by omega⟩
    have HS':Hid (34::zR s s.size 0=l++((qE (Utf8.decode s pos).1).data.toList++zR s f (pos+(Utf8.decode s pos).2))):=Lib.hid (by rw [HS.out,zR,if_pos hp])
    have hit2:=Lib.iterAt_heap wr w2.heap.size s pos (pos+(Utf8.decode s pos).2) hit;have hbw3:=Lib.below_iterAt hbw (k:=w2.heap.size) hbw2.size s (pos+(Utf8.decode s pos).2);have hq2:=hq.iterAt hit (pos+(Utf8.decode s pos).2);obtain ⟨W1,hW1⟩:∃ W1,W1=wr.iterAt w2.heap.size s (pos+(Utf8.decode s pos).2):=⟨_,rfl⟩;rw [←hW1] at hnx hit2 hbw3 hq2;clear hW1 hit hbw HS hq;generalize hd:Utf8.decode s pos=d at *;clear hd;obtain ⟨r,k⟩:=d;dsimp only at hnx hwd hd1 HS' hit2 hdv;have hsz:=sK r hdv;have HV:=Lib.hid hdv;clear hdv;have hk3:=hk.below hbw3;go_wp2_with (first
     | (go_at_call 91; refine (jPl r HV.out _ hk3.dl hk3.db).mono ?_; rintro e w3 ⟨rfl,hb3⟩)
     | (go_at_call 90; refine (Tryz.qWriteString w.heap.size w.heap.size (Lib.byteCells l) (qE r) _ (tA hq2 hb3) (by rw [Lib.byteCells_length]; omega) (Nat.le_trans hbw3.size hb3.size)).mono ?_; rintro e w4 ⟨rfl,hq4,hb4,ho4⟩))
    have hit4:w4.heap[w2.heap.size]?=some (.stringIter s (pos+k)):=ho4 _ _ ((hb3.block _ (lt_of_block hit2)).trans hit2) (by simp; omega) (fun c fz h=>by cases h)
    refine ⟨⟨pos+k,f,l++(qE r).data.toList,hit4,?_,(hbw3.trans (hb3.mono hbw3.size)).trans hb4,Lib.hid (by rw [HS'.out,List.append_assoc]),by omega,by omega,?_⟩,?_⟩
    ·rw [Lib.strCells_eq] at hq4;rw [Lib.byteCells,List.map_append];exact hq4
    ·have:(qE r).data.toList.length=(qE r).size:=by simp
     rw [List.length_append];omega
    ·rw [iterPos_of hit4,hpos0]; omega
   ·have hnx:∀ ty,(Instr.next (.pointer (some ⟨w2.heap.size,0,none⟩)) true ty).run Tryz.prog wr=_:=fun ty=>Lib.run_next_end_at wr w2.heap.size s pos ty hit hp
    have HL:Hid (34::(zR s s.size 0++[34])=l++[34]):=Lib.hid (by
     rw [←List.cons_append,HS.out];cases fuel with
     | zero=>simp [zR]
     | succ f=>simp [zR,hp])
    go_wp2_with (first
     | (go_at_call 89; refine (Tryz.qWriteByte w.heap.size w.heap.size (Lib.byteCells l) 34 _ hq (by rw [Lib.byteCells_length]; omega) hbw.size).mono ?_; rintro e w3 ⟨rfl,hq3,hb3, -⟩)
     | (go_at_call 92; refine (Tryz.qString w.heap.size w.heap.size (l++[34]) _ (by rw [Lib.byteCells,List.map_append]; exact hq3) (Nat.le_trans hbw.size hb3.size)).mono ?_; rintro e w4 ⟨rfl,hb4⟩))
    go_ret;exact ⟨jL (by rw [HE.out,HL.out]),hpost _ ((hbw.trans hb3).trans hb4)⟩
 ·have h1:=h1 rfl;go_enter Tryz.func59,Tryz.ntmps59;go_wp2_with (go_at_call 87; refine (aE s _ (by omega) hk.tab).mono ?_; rintro e w1 ⟨rfl,hb1⟩; rw [h1])
  replace hpost:∀ w',Below w1.heap.size w1 w'→Below w.heap.size w w':=fun _ h=>hb1.trans (h.mono hb1.size);replace hk:=hk.below hb1;clear hb1
  rename World=>w
  go_wp2_with (go_at_call 89; refine (Tryz.qWriteByte w.heap.size w.heap.size [] 34 _ (.of (Lib.fresh_isBuilder _ _ w)) (by decide) (by simp)).mono ?_; rintro e w2 ⟨rfl,hq,hb2, -⟩)
  have hbw2:Below w.heap.size w w2:=((Below.refl _ _).alloc (Nat.le_refl _) _).trans hb2;have hlt:w.heap.size<w2.heap.size:=by have:=hb2.size; simp at this; omega
  clear hb2;go_loopw [] (fun wr=>∃ (pos fuel:Nat) (l:List UInt8),wr.heap[w2.heap.size]?=some (.stringIter s pos)∧Lib.IsBuilderF 106 5 w.heap.size w.heap.size (Lib.byteCells l) wr∧Below w.heap.size w wr∧Hid (34::zR s s.size 0=l++zR s fuel pos)∧s.size≤pos+fuel∧pos≤s.size∧l.length≤1+16*pos) (fun wr=>s.size - wr.iterPos w2.heap.size)
  case atStart=>exact ⟨0,s.size,[34],World.iter_heap w2 s 0,hq.alloc _,hbw2.alloc hbw2.size _,Lib.hid rfl,by omega,by omega,by simp⟩
  case round=>
   obtain ⟨pos,fuel,l,hit,hq,hbw,HS,hfu,hpt,hl⟩:=hrel;have hpos0:=iterPos_of hit;by_cases hp:pos<s.size
   ·have hnx:∀ ty,(Instr.next (.pointer (some ⟨w2.heap.size,0,none⟩)) true ty).run Tryz.prog wr=_:=fun ty=>Lib.run_next_any_at wr w2.heap.size s pos ty hit hp
    have hwd:=Lib.decode_width_pos s pos hp;have hd1:=kJ s pos hp;have hdv:=rQ s pos;obtain ⟨f,rfl⟩:∃ f,fuel=f+1:=⟨fuel - 1,by omega⟩
    have HS':Hid (34::zR s s.size 0=l++((qE (Utf8.decode s pos).1).data.toList++zR s f (pos+(Utf8.decode s pos).2))):=Lib.hid (by rw [HS.out,zR,if_pos hp])
    have hit2:=Lib.iterAt_heap wr w2.heap.size s pos (pos+(Utf8.decode s pos).2) hit;have hbw3:=Lib.below_iterAt hbw (k:=w2.heap.size) hbw2.size s (pos+(Utf8.decode s pos).2);have hq2:=hq.iterAt hit (pos+(Utf8.decode s pos).2);obtain ⟨W1,hW1⟩:∃ W1,W1=wr.iterAt w2.heap.size s (pos+(Utf8.decode s pos).2):=⟨_,rfl⟩;rw [←hW1] at hnx hit2 hbw3 hq2;clear hW1 hit hbw HS hq;generalize hd:Utf8.decode s pos=d at *;clear hd;obtain ⟨r,k⟩:=d;dsimp only at hnx hwd hd1 HS' hit2 hdv;have hsz:=sK r hdv;have HV:=Lib.hid hdv;clear hdv;have hk3:=hk.below hbw3;go_wp2_with (first
     | (go_at_call 91; refine (jPl r HV.out _ hk3.dl hk3.db).mono ?_; rintro e w3 ⟨rfl,hb3⟩)
     | (go_at_call 90; refine (Tryz.qWriteString w.heap.size w.heap.size (Lib.byteCells l) (qE r) _ (tA hq2 hb3) (by rw [Lib.byteCells_length]; omega) (Nat.le_trans hbw3.size hb3.size)).mono ?_; rintro e w4 ⟨rfl,hq4,hb4,ho4⟩))
    have hit4:w4.heap[w2.heap.size]?=some (.stringIter s (pos+k)):=ho4 _ _ ((hb3.block _ (lt_of_block hit2)).trans hit2) (by simp; omega) (fun c fz h=>by cases h)
    refine ⟨⟨pos+k,f,l++(qE r).data.toList,hit4,?_,(hbw3.trans (hb3.mono hbw3.size)).trans hb4,Lib.hid (by rw [HS'.out,List.append_assoc]),by omega,by omega,?_⟩,?_⟩
    ·rw [Lib.strCells_eq] at hq4;rw [Lib.byteCells,List.map_append];exact hq4
    ·have:(qE r).data.toList.length=(qE r).size:=by simp
     rw [List.length_append];omega
    ·rw [iterPos_of hit4,hpos0]; omega
   ·have hnx:∀ ty,(Instr.next (.pointer (some ⟨w2.heap.size,0,none⟩)) true ty).run Tryz.prog wr=_:=fun ty=>Lib.run_next_end_at wr w2.heap.size s pos ty hit hp
    have HL:Hid (34::(zR s s.size 0++[34])=l++[34]):=Lib.hid (by
     rw [←List.cons_append,HS.out];cases fuel with
     | zero=>simp [zR]
     | succ f=>simp [zR,hp])
    go_wp2_with (first
     | (go_at_call 89; refine (Tryz.qWriteByte w.heap.size w.heap.size (Lib.byteCells l) 34 _ hq (by rw [Lib.byteCells_length]; omega) hbw.size).mono ?_; rintro e w3 ⟨rfl,hq3,hb3, -⟩)
     | (go_at_call 92; refine (Tryz.qString w.heap.size w.heap.size (l++[34]) _ (by rw [Lib.byteCells,List.map_append]; exact hq3) (Nat.le_trans hbw.size hb3.size)).mono ?_; rintro e w4 ⟨rfl,hb4⟩))
    go_ret;exact ⟨jL (by rw [HE.out,HL.out]),hpost _ ((hbw.trans hb3).trans hb4)⟩
theorem jZf (s:ByteArray) (single:Bool) (w:World) (hs:s.size≤4200000000) (hk:Kn w) :
  Calls Tryz.prog 59 #[.string s,.bool single] w fun e w'=>e = .returned (.string (xQ s single))∧Below w.heap.size w w':=by
 cases single
 ·exact qBg s false w hs hk fun h=>by cases h
 ·cases h:qN s
  ·exact qBg s true w hs hk fun _=>h
  ·exact qMb s w hs hk h
end
end Go.Proofs.YtdlhiljbhepliaaGreatDoor
