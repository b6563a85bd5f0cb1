/-
bosketref1.told, Scalar, Bytes, ShowRune, Quote: what they compute.
-/
import Derived.Test.YtdlhiljbhepliaaGreatDoorFtA
namespace Go.Proofs.YtdlhiljbhepliaaGreatDoor
noncomputable section
set_option linter.all false
open Go.RowKit
theorem pI (k:Nat) (hk:k<9) (w:World) :
  Calls Tryz.prog 111 #[.int .i64 k] w fun e w'=>e = .returned (.int .i32 (uJ k:Nat))∧w=w':=by
 have h9:k=0∨k=1∨k=2∨k=3∨k=4∨k=5∨k=6∨k=7∨k=8:=by omega
 rcases h9 with rfl | rfl | rfl | rfl | rfl | rfl | rfl | rfl | rfl <;>
 ·go_enter Tryz.func111,Tryz.ntmps111;go_wp2;go_ret;exact ⟨rfl,rfl⟩
set_option maxRecDepth 100000 in
theorem zX (r:Nat) (hv:zS r) (w:World) :
  Calls Tryz.prog 110 #[.int .i32 r] w fun e w'=>e = .returned (.bool true)∧w=w':=by
 unfold zS at hv;have HV:=Lib.hid hv;clear hv;have h3:(r:Int)≤1114111:=by have:=HV.out; omega
 by_cases h:(r:Int)<55296
 ·go_enter Tryz.func110,Tryz.ntmps110;go_wp2;go_ret;exact ⟨rfl,rfl⟩
 ·have h2:(57343:Int)<r:=by have:=HV.out; omega
  go_enter Tryz.func110,Tryz.ntmps110;go_wp2;go_ret;exact ⟨rfl,rfl⟩
theorem aV (w:World) (l:List UInt8) (cs:Array Value) (n:Nat) (hn:l.length=n) (hc:∀ (j:Nat) (b:UInt8),l[j]?=some b→cs[j]?=some (.int .u8 (b.toNat:Int))) :
  (convert 104 9 (.slice (some ⟨w.heap.size,0,none⟩) n n)).run Tryz.prog (w.alloc (.cells cs 5)) = .ok (.string (mkS l)) (w.alloc (.cells cs 5)):=by
 subst hn;refine run_convert_bytes_back _ 104 9 5 ⟨w.heap.size,0,none⟩ _ l Tryz.underlying104 Tryz.underlying5 Tryz.underlying9 (fun j hj=>?_);have h:=hc j l[j] (List.getElem?_eq_getElem hj);rw [qGh,Lib.cell_of_heap (show (w.alloc (.cells cs 5)).heap[w.heap.size]?=some (.cells cs 5 (0,0)) from by show (w.heap.push _)[w.heap.size]?=some _; simp) j]
 exact h
theorem u8n (n:Nat) (x:Int) (h:n<256) (e:x=n):(Value.int .u8 x) = .int .u8 ((UInt8.ofNat n).toNat:Int):=by
 rw [e,UInt8.toNat_ofNat_of_lt' h]
theorem jGx (x:Int) (h0:0≤x) (h1:x<2147483648):bits .and .i32 x 63=x % 64:=bits_mask .i32 31 (by decide) wraps_i32 6 (by decide) x h0 h1
theorem jGw (x:Int) (h0:0≤x) (h1:x<2147483648):bits .and .i32 x 15=x % 16:=bits_mask .i32 31 (by decide) wraps_i32 4 (by decide) x h0 h1
theorem qPu (y:Int) (h0:0≤y) (h1:y<16):bits .or .i32 224 y=224+y:=bits_join .i32 31 (by decide) wraps_i32 4 224 y (by decide) (by decide) (by decide) h0 h1 (by omega)
theorem qPv (y:Int) (h0:0≤y) (h1:y<8):bits .or .i32 240 y=240+y:=bits_join .i32 31 (by decide) wraps_i32 3 240 y (by decide) (by decide) (by decide) h0 h1 (by omega)
set_option maxRecDepth 100000 in
set_option maxHeartbeats 2000000 in
theorem jSe (r:Nat) (h:r<128)  (hv:zS r) (w:World) :
  Calls Tryz.prog 112 #[.int .i32 r] w fun e w'=>e = .returned (.string (Utf8.encode r))∧Below w.heap.size w w':=by
 have HE:=Lib.hid (qRr r h);have HV:=Lib.hid hv;obtain ⟨x,hx⟩:∃ x:Int,x=(r:Int):=⟨_,rfl⟩;have h0:0≤x:=by omega
 have h':x<128:=by omega
 clear hv h;have HS:∀ w,Hid (Calls Tryz.prog 110 #[.int .i32 x] w fun e w'=>e = .returned (.bool true)∧w=w'):=fun w=>Lib.hid (by rw [hx]; exact zX r HV.out w)
 obtain ⟨R,hR⟩:∃ R,R=Utf8.encode (r:Int):=⟨_,rfl⟩;rw [←hR,←hx];have HX:=Lib.hid hx;have HR:Hid (mkS [UInt8.ofNat (r)]=R):=Lib.hid (by rw [hR,HE.out]; rfl)
 clear hx hR HE HV;go_enter Tryz.func112,Tryz.ntmps112;go_wp2_with (go_at_call 110; refine (HS _).out.mono ?_; rintro e w' ⟨rfl,rfl⟩);rw [aV _ [UInt8.ofNat (r)] _ 1 rfl (fun j b h=>by
  have hX:=HX.out
  match j,h with
  | 0,h=>cases h; exact congrArg some (u8n _ _ (by omega) (by omega))),HR.out]
 go_wp2;go_ret;exact ⟨rfl,(Below.refl _ _).alloc (Nat.le_refl _) _⟩
set_option maxRecDepth 100000 in
set_option maxHeartbeats 2000000 in
theorem jSf (r:Nat) (h1:128≤r) (h:r<2048) (hv:zS r) (w:World) :
  Calls Tryz.prog 112 #[.int .i32 r] w fun e w'=>e = .returned (.string (Utf8.encode r))∧Below w.heap.size w w':=by
 have HE:=Lib.hid (qRs r h1 h);have HV:=Lib.hid hv;obtain ⟨x,hx⟩:∃ x:Int,x=(r:Int):=⟨_,rfl⟩;have h0:128≤x:=by omega
 have h':x<2048:=by omega
 clear hv h h1;have HS:∀ w,Hid (Calls Tryz.prog 110 #[.int .i32 x] w fun e w'=>e = .returned (.bool true)∧w=w'):=fun w=>Lib.hid (by rw [hx]; exact zX r HV.out w)
 obtain ⟨R,hR⟩:∃ R,R=Utf8.encode (r:Int):=⟨_,rfl⟩;rw [←hR,←hx];have HX:=Lib.hid hx;have HR:Hid (mkS [UInt8.ofNat (192+r / 64),UInt8.ofNat (128+r % 64)]=R):=Lib.hid (by rw [hR,HE.out]; rfl)
 clear hx hR HE HV;have b0:=jGx (x) (by omega) (by omega)
 go_enter Tryz.func112,Tryz.ntmps112;go_wp2_with (go_at_call 110; refine (HS _).out.mono ?_; rintro e w' ⟨rfl,rfl⟩);rw [aV _ [UInt8.ofNat (192+r / 64),UInt8.ofNat (128+r % 64)] _ 2 rfl (fun j b h=>by
  have hX:=HX.out
  match j,h with
  | 0,h=>cases h; exact congrArg some (u8n _ _ (by omega) (by omega))
  | 1,h=>cases h; exact congrArg some (u8n _ _ (by omega) (by omega))),HR.out]
 go_wp2;go_ret;exact ⟨rfl,(Below.refl _ _).alloc (Nat.le_refl _) _⟩
set_option maxRecDepth 100000 in
set_option maxHeartbeats 2000000 in
theorem jSg (r:Nat) (h1:2048≤r) (h:r<65536) (hv:zS r) (w:World) :
  Calls Tryz.prog 112 #[.int .i32 r] w fun e w'=>e = .returned (.string (Utf8.encode r))∧Below w.heap.size w w':=by
 have HE:=Lib.hid (qRt r h1 h hv);have HV:=Lib.hid hv;obtain ⟨x,hx⟩:∃ x:Int,x=(r:Int):=⟨_,rfl⟩;have h0:2048≤x:=by omega
 have h':x<65536:=by omega
 clear hv h h1;have HS:∀ w,Hid (Calls Tryz.prog 110 #[.int .i32 x] w fun e w'=>e = .returned (.bool true)∧w=w'):=fun w=>Lib.hid (by rw [hx]; exact zX r HV.out w)
 obtain ⟨R,hR⟩:∃ R,R=Utf8.encode (r:Int):=⟨_,rfl⟩;rw [←hR,←hx];have HX:=Lib.hid hx;have HR:Hid (mkS [UInt8.ofNat (224+r / 4096),UInt8.ofNat (128+r / 64 % 64),UInt8.ofNat (128+r % 64)]=R):=Lib.hid (by rw [hR,HE.out]; rfl)
 clear hx hR HE HV;have b0:=jGx (x) (by omega) (by omega)
 have b1:=jGx (x / 64) (by omega) (by omega)
 have c0:=qPu (x / 4096) (by omega) (by omega)
 go_enter Tryz.func112,Tryz.ntmps112;go_wp2_with (go_at_call 110; refine (HS _).out.mono ?_; rintro e w' ⟨rfl,rfl⟩);rw [aV _ [UInt8.ofNat (224+r / 4096),UInt8.ofNat (128+r / 64 % 64),UInt8.ofNat (128+r % 64)] _ 3 rfl (fun j b h=>by
  have hX:=HX.out
  match j,h with
  | 0,h=>cases h; exact congrArg some (u8n _ _ (by omega) (by omega))
  | 1,h=>cases h; exact congrArg some (u8n _ _ (by omega) (by omega))
  | 2,h=>cases h; exact congrArg some (u8n _ _ (by omega) (by omega))),HR.out]
 go_wp2;go_ret;exact ⟨rfl,(Below.refl _ _).alloc (Nat.le_refl _) _⟩
set_option maxRecDepth 100000 in
set_option maxHeartbeats 2000000 in
theorem jSh (r:Nat) (h1:65536≤r)  (hv:zS r) (w:World) :
  Calls Tryz.prog 112 #[.int .i32 r] w fun e w'=>e = .returned (.string (Utf8.encode r))∧Below w.heap.size w w':=by
 have HE:=Lib.hid (qRu r h1 hv);have HV:=Lib.hid hv;obtain ⟨x,hx⟩:∃ x:Int,x=(r:Int):=⟨_,rfl⟩;have h0:65536≤x:=by unfold zS at hv; omega
 have h':x≤1114111:=by unfold zS at hv; omega
 clear hv h1;have HS:∀ w,Hid (Calls Tryz.prog 110 #[.int .i32 x] w fun e w'=>e = .returned (.bool true)∧w=w'):=fun w=>Lib.hid (by rw [hx]; exact zX r HV.out w)
 obtain ⟨R,hR⟩:∃ R,R=Utf8.encode (r:Int):=⟨_,rfl⟩;rw [←hR,←hx];have HX:=Lib.hid hx;have HR:Hid (mkS [UInt8.ofNat (240+r / 262144),UInt8.ofNat (128+r / 4096 % 64),UInt8.ofNat (128+r / 64 % 64),UInt8.ofNat (128+r % 64)]=R):=Lib.hid (by rw [hR,HE.out]; rfl)
 clear hx hR HE HV;have b0:=jGx (x) (by omega) (by omega)
 have b1:=jGx (x / 64) (by omega) (by omega)
 have b2:=jGx (x / 4096) (by omega) (by omega)
 have c0:=qPv (x / 262144) (by omega) (by omega)
 go_enter Tryz.func112,Tryz.ntmps112;go_wp2_with (go_at_call 110; refine (HS _).out.mono ?_; rintro e w' ⟨rfl,rfl⟩);rw [aV _ [UInt8.ofNat (240+r / 262144),UInt8.ofNat (128+r / 4096 % 64),UInt8.ofNat (128+r / 64 % 64),UInt8.ofNat (128+r % 64)] _ 4 rfl (fun j b h=>by
  have hX:=HX.out
  match j,h with
  | 0,h=>cases h; exact congrArg some (u8n _ _ (by omega) (by omega))
  | 1,h=>cases h; exact congrArg some (u8n _ _ (by omega) (by omega))
  | 2,h=>cases h; exact congrArg some (u8n _ _ (by omega) (by omega))
  | 3,h=>cases h; exact congrArg some (u8n _ _ (by omega) (by omega))),HR.out]
 go_wp2;go_ret;exact ⟨rfl,(Below.refl _ _).alloc (Nat.le_refl _) _⟩
theorem jKt (r:Nat) (hv:zS r) (w:World) :
  Calls Tryz.prog 112 #[.int .i32 r] w fun e w'=>e = .returned (.string (Utf8.encode r))∧Below w.heap.size w w':=by
 rcases Nat.lt_or_ge r 128 with h | h
 ·exact jSe r h hv w
 rcases Nat.lt_or_ge r 2048 with h2 | h2
 ·exact jSf r h h2 hv w
 rcases Nat.lt_or_ge r 65536 with h3 | h3
 ·exact jSg r h2 h3 hv w
 ·exact jSh r h3 hv w
theorem qLn (d:Nat) (h:d<16):(⟨#[48,49,50,51,52,53,54,55,56,57,97,98,99,100,101,102]⟩:ByteArray).extract d (d+1)=mkS [mL d]:=by
 have:∀ d:Fin 16,(⟨#[48,49,50,51,52,53,54,55,56,57,97,98,99,100,101,102]⟩:ByteArray).extract d.1 (d.1+1)=mkS [mL d.1]:=by decide +kernel
 exact this ⟨d,h⟩
theorem rZ (d:Int) (k:Nat) (h:d=k) (hk:k<16):(⟨#[48,49,50,51,52,53,54,55,56,57,97,98,99,100,101,102]⟩:ByteArray).extract d.toNat (d+1).toNat=mkS [mL k]:=by
 subst h;rw [Int.toNat_natCast,show ((k:Int)+1).toNat=k+1 by omega,qLn k hk]
theorem fZ (s:ByteArray) (r k:Nat) (x:ByteArray) (h:x=mkS [mL (r / 16^k % 16)]):s++mkS (pR r (k+1))=s++x++mkS (pR r k):=by
 subst h;apply ByteArray.ext;simp [mkS,pR]
theorem jVk (s:ByteArray):s++mkS (pR 0 0)=s:=by
 apply ByteArray.ext;simp [mkS,pR]
end
noncomputable section
set_option linter.all false
open Go.RowKit
set_option maxRecDepth 100000 in
set_option maxHeartbeats 4000000 in
theorem jPb (r:Nat) (x:Int) (hx:Hid (x=(r:Int))) (hb:0≤x∧x<65536) (hne:(x==34)=false∧(x==92)=false) (hS:Hid (qE r=lI r)) (hn:Hid (∀ k,k<9→(uJ k:Int)≠x)) (hv:Hid (zS r)) (hp:Hid (zF x=false)) (w:World) :
  Calls Tryz.prog 79 #[.int .i32 x] w fun e w'=>e = .returned (.string (qE r))∧Below w.heap.size w w':=by
 have HC:∀ w,Hid (Calls Tryz.prog 110 #[.int .i32 x] w fun e w'=>e = .returned (.bool true)∧w=w'):=fun w=>Lib.hid (by rw [hx.out]; exact zX r hv.out w)
 have HP:∀ w,Hid (Calls Tryz.prog 108 #[.int .i32 x] w fun e w'=>e = .returned (.bool false)∧w=w'):=fun w=>Lib.hid (by have:=wZ x w; rw [hp.out] at this; exact this)
 obtain ⟨h34,h92⟩:=hne;obtain ⟨x0,x1⟩:=hb;obtain ⟨R,hR⟩:∃ R,R=qE r:=⟨_,rfl⟩;rw [←hR];have HR:Hid (R=lI r):=Lib.hid (by rw [hR,hS.out])
 clear hR hS;go_enter Tryz.func79,Tryz.ntmps79;go_wp2_with (go_at_call 110; refine (HC _).out.mono ?_; rintro e w' ⟨rfl,rfl⟩);go_loop [3] (fun v=>∃ k:Nat,v = .int .i64 k∧k≤9) (fun v=>9 - (intOf v).toNat)
 case atStart=>exact ⟨0,rfl,by omega⟩
 case round=>
  obtain ⟨k,rfl,hk⟩:=hrel;by_cases hlt:k<9
  ·have hne:=hn.out k hlt;have hne':((uJ k:Int)==x)=false:=by simpa using hne
   have HT:∀ w,Hid (Calls Tryz.prog 111 #[.int .i64 k] w fun e w'=>e = .returned (.int .i32 (uJ k:Nat))∧w=w'):=fun w=>Lib.hid (pI k hlt w);generalize uJ k=tk at *;go_wp2_with (go_at_call 111; refine (HT _).out.mono ?_; rintro e w' ⟨rfl,rfl⟩);exact ⟨⟨k+1,by go_num,by omega⟩,by simp [intOf]; omega⟩
  ·obtain rfl:k=9:=by omega
   by_cases h255:x≤255
   ·go_wp2_with (go_at_call 108; refine (HP _).out.mono ?_; rintro e w' ⟨rfl,rfl⟩);go_loop [5,6] (fun s i=>∃ (k:Nat) (t:ByteArray),i = .int .i64 ((k:Int) - 1)∧s = .string t∧k≤2∧t.size+k≤50∧Hid (R=t++mkS (pR r k))) (fun _ i=>(intOf i+1).toNat)
    case atStart=>exact ⟨2,_,rfl,rfl,by omega,by decide,Lib.hid (by rw [HR.out,lI,if_pos (by have:=hx.out; omega)])⟩
    case round=>
     obtain ⟨k,t,rfl,rfl,hk2,ht,HK⟩:=hrel;have hk3:k=0∨k=1∨k=2:=by omega
     have a0:=jGw (x) (by omega) (by omega)
     have a1:=jGw (x / 16) (by omega) (by omega)
     rcases hk3 with rfl | rfl | rfl
     ·go_wp2;go_ret;exact ⟨jL (by rw [HK.out]; exact (jVk t).symm),Below.refl _ _⟩
     ·have hd:=rZ (x % 16) (r / 16^0 % 16) (by have:=hx.out; rw [show (16:Nat)^0=1 from rfl]; omega) (Nat.mod_lt _ (by decide))
      have HD:=Lib.hid hd;clear hd;go_wp2;refine ⟨⟨0,_,rfl,rfl,by omega,by rw [ByteArray.size_append,HD.out]; show t.size+1+0≤50; omega,Lib.hid (by rw [HK.out]; exact fZ t r 0 _ HD.out)⟩,by simp [intOf]⟩
     ·have hd:=rZ (x / 16 % 16) (r / 16^1 % 16) (by have:=hx.out; rw [show (16:Nat)^1=16 from rfl]; omega) (Nat.mod_lt _ (by decide))
      have HD:=Lib.hid hd;clear hd;go_wp2;refine ⟨⟨1,_,rfl,rfl,by omega,by rw [ByteArray.size_append,HD.out]; show t.size+1+1≤50; omega,Lib.hid (by rw [HK.out]; exact fZ t r 1 _ HD.out)⟩,by simp [intOf]⟩
   ·have h65:x≤65535:=by omega
    go_wp2_with (go_at_call 108; refine (HP _).out.mono ?_; rintro e w' ⟨rfl,rfl⟩);go_loop [5,6] (fun s i=>∃ (k:Nat) (t:ByteArray),i = .int .i64 ((k:Int) - 1)∧s = .string t∧k≤4∧t.size+k≤50∧Hid (R=t++mkS (pR r k))) (fun _ i=>(intOf i+1).toNat)
    case atStart=>exact ⟨4,_,rfl,rfl,by omega,by decide,Lib.hid (by rw [HR.out,lI,if_neg (by have:=hx.out; omega),if_pos (by have:=hx.out; omega)])⟩
    case round=>
     obtain ⟨k,t,rfl,rfl,hk2,ht,HK⟩:=hrel;have hk3:k=0∨k=1∨k=2∨k=3∨k=4:=by omega
     have a0:=jGw (x) (by omega) (by omega)
     have a1:=jGw (x / 16) (by omega) (by omega)
     have a2:=jGw (x / 256) (by omega) (by omega)
     have a3:=jGw (x / 4096) (by omega) (by omega)
     rcases hk3 with rfl | rfl | rfl | rfl | rfl
     ·go_wp2;go_ret;exact ⟨jL (by rw [HK.out]; exact (jVk t).symm),Below.refl _ _⟩
     ·have hd:=rZ (x % 16) (r / 16^0 % 16) (by have:=hx.out; rw [show (16:Nat)^0=1 from rfl]; omega) (Nat.mod_lt _ (by decide))
      have HD:=Lib.hid hd;clear hd;go_wp2;refine ⟨⟨0,_,rfl,rfl,by omega,by rw [ByteArray.size_append,HD.out]; show t.size+1+0≤50; omega,Lib.hid (by rw [HK.out]; exact fZ t r 0 _ HD.out)⟩,by simp [intOf]⟩
     ·have hd:=rZ (x / 16 % 16) (r / 16^1 % 16) (by have:=hx.out; rw [show (16:Nat)^1=16 from rfl]; omega) (Nat.mod_lt _ (by decide))
      have HD:=Lib.hid hd;clear hd;go_wp2;refine ⟨⟨1,_,rfl,rfl,by omega,by rw [ByteArray.size_append,HD.out]; show t.size+1+1≤50; omega,Lib.hid (by rw [HK.out]; exact fZ t r 1 _ HD.out)⟩,by simp [intOf]⟩
     ·have hd:=rZ (x / 256 % 16) (r / 16^2 % 16) (by have:=hx.out; rw [show (16:Nat)^2=256 from rfl]; omega) (Nat.mod_lt _ (by decide))
      have HD:=Lib.hid hd;clear hd;go_wp2;refine ⟨⟨2,_,rfl,rfl,by omega,by rw [ByteArray.size_append,HD.out]; show t.size+1+2≤50; omega,Lib.hid (by rw [HK.out]; exact fZ t r 2 _ HD.out)⟩,by simp [intOf]⟩
     ·have hd:=rZ (x / 4096 % 16) (r / 16^3 % 16) (by have:=hx.out; rw [show (16:Nat)^3=4096 from rfl]; omega) (Nat.mod_lt _ (by decide))
      have HD:=Lib.hid hd;clear hd;go_wp2;refine ⟨⟨3,_,rfl,rfl,by omega,by rw [ByteArray.size_append,HD.out]; show t.size+1+3≤50; omega,Lib.hid (by rw [HK.out]; exact fZ t r 3 _ HD.out)⟩,by simp [intOf]⟩
set_option maxRecDepth 100000 in
set_option maxHeartbeats 4000000 in
theorem jGr (r:Nat) (x:Int) (hx:Hid (x=(r:Int))) (hb:0≤x∧x≤1114111) (hne:(x==34)=false∧(x==92)=false) (hS:Hid (qE r=Utf8.encode (r:Int))) (hn:Hid (∀ k,k<9→(uJ k:Int)≠x)) (hv:Hid (zS r)) (hp:Hid (zF x=true)) (w:World) :
  Calls Tryz.prog 79 #[.int .i32 x] w fun e w'=>e = .returned (.string (qE r))∧Below w.heap.size w w':=by
 have HC:∀ w,Hid (Calls Tryz.prog 110 #[.int .i32 x] w fun e w'=>e = .returned (.bool true)∧w=w'):=fun w=>Lib.hid (by rw [hx.out]; exact zX r hv.out w)
 have HP:∀ w,Hid (Calls Tryz.prog 108 #[.int .i32 x] w fun e w'=>e = .returned (.bool true)∧w=w'):=fun w=>Lib.hid (by have:=wZ x w; rw [hp.out] at this; exact this)
 have HB:∀ w,Hid (Calls Tryz.prog 112 #[.int .i32 x] w fun e w'=>e = .returned (.string (qE r))∧Below w.heap.size w w'):=fun w=>Lib.hid (by rw [hx.out,hS.out]; exact jKt r hv.out w)
 obtain ⟨h34,h92⟩:=hne;obtain ⟨x0,x1⟩:=hb;generalize qE r=R at *;clear hS;go_enter Tryz.func79,Tryz.ntmps79;go_wp2_with (go_at_call 110; refine (HC _).out.mono ?_; rintro e w' ⟨rfl,rfl⟩);go_loop [3] (fun v=>∃ k:Nat,v = .int .i64 k∧k≤9) (fun v=>9 - (intOf v).toNat)
 case atStart=>exact ⟨0,rfl,by omega⟩
 case round=>
  obtain ⟨k,rfl,hk⟩:=hrel;by_cases hlt:k<9
  ·have hne:=hn.out k hlt;have hne':((uJ k:Int)==x)=false:=by simpa using hne
   have HT:∀ w,Hid (Calls Tryz.prog 111 #[.int .i64 k] w fun e w'=>e = .returned (.int .i32 (uJ k:Nat))∧w=w'):=fun w=>Lib.hid (pI k hlt w);generalize uJ k=tk at *;go_wp2_with (go_at_call 111; refine (HT _).out.mono ?_; rintro e w' ⟨rfl,rfl⟩);exact ⟨⟨k+1,by go_num,by omega⟩,by simp [intOf]; omega⟩
  ·obtain rfl:k=9:=by omega
   go_wp2_with (first | (go_at_call 108; refine (HP _).out.mono ?_; rintro e w' ⟨rfl,rfl⟩) | (go_at_call 112; refine (HB _).out.mono ?_; rintro e w' ⟨rfl,hb⟩))
   go_ret;exact ⟨rfl,hb⟩
set_option maxRecDepth 100000 in
set_option maxHeartbeats 4000000 in
theorem jKx (r j:Nat) (x:Int) (hx:Hid (x=(r:Int))) (hj:j<9) (hr:Hid (r=uJ j)) (hb:0≤x∧x≤100) (hne:(x==34)=false∧(x==92)=false) (hv:Hid (zS r)) (w:World) :
  Calls Tryz.prog 79 #[.int .i32 x] w fun e w'=>e = .returned (.string (qE r))∧Below w.heap.size w w':=by
 have HC:∀ w,Hid (Calls Tryz.prog 110 #[.int .i32 x] w fun e w'=>e = .returned (.bool true)∧w=w'):=fun w=>Lib.hid (by rw [hx.out]; exact zX r hv.out w)
 obtain ⟨h34,h92⟩:=hne;obtain ⟨x0,x1⟩:=hb;obtain ⟨R,hR⟩:∃ R,R=qE r:=⟨_,rfl⟩;rw [←hR];have HR:Hid (∀ k,k<9→(uJ k:Int)=x→R=⟨#[92]⟩++jNz.extract k (k+1)):=Lib.hid (fun k hk e=>by
  have h1:r=uJ k:=by have:=hx.out; omega
  rw [hR,h1,jZk k hk])
 have HJ:Hid ((uJ j:Int)=x):=Lib.hid (by have:=hx.out; have:=hr.out; omega)
 clear hR hr;go_enter Tryz.func79,Tryz.ntmps79;go_wp2_with (go_at_call 110; refine (HC _).out.mono ?_; rintro e w' ⟨rfl,rfl⟩);go_loop [3] (fun v=>∃ k:Nat,v = .int .i64 k∧k≤j) (fun v=>9 - (intOf v).toNat)
 case atStart=>exact ⟨0,rfl,by omega⟩
 case round=>
  obtain ⟨k,rfl,hk⟩:=hrel;have hlt:k<9:=by omega
  have HT:∀ w,Hid (Calls Tryz.prog 111 #[.int .i64 k] w fun e w'=>e = .returned (.int .i32 (uJ k:Nat))∧w=w'):=fun w=>Lib.hid (pI k hlt w);by_cases he:(uJ k:Int)=x
  ·have HE:=Lib.hid (HR.out k hlt he);have hne':((uJ k:Int)==x)=true:=by simpa using he
   clear he HR HJ;generalize uJ k=tk at *;go_wp2_with (go_at_call 111; refine (HT _).out.mono ?_; rintro e w' ⟨rfl,rfl⟩);go_ret;exact ⟨jL (by rw [HE.out]; rfl),Below.refl _ _⟩
  ·have hne':((uJ k:Int)==x)=false:=by simpa using he
   have hkj:k≠j:=fun e=>he (by rw [e]; exact HJ.out)
   clear he HR HJ;generalize uJ k=tk at *;go_wp2_with (go_at_call 111; refine (HT _).out.mono ?_; rintro e w' ⟨rfl,rfl⟩);exact ⟨⟨k+1,by go_num,by omega⟩,by simp [intOf]; omega⟩
theorem jSm (w:World):Calls Tryz.prog 79 #[.int .i32 34] w fun e w'=>e = .returned (.string ⟨#[92,34]⟩)∧Below w.heap.size w w':=by
 go_enter Tryz.func79,Tryz.ntmps79;go_wp2_with (go_at_call 110; refine (zX 34 (.inl (by decide)) _).mono ?_; rintro e w' ⟨rfl,rfl⟩)
 go_ret;exact ⟨rfl,Below.refl _ _⟩
theorem jSn (w:World):Calls Tryz.prog 79 #[.int .i32 92] w fun e w'=>e = .returned (.string ⟨#[92,92]⟩)∧Below w.heap.size w w':=by
 go_enter Tryz.func79,Tryz.ntmps79;go_wp2_with (go_at_call 110; refine (zX 92 (.inl (by decide)) _).mono ?_; rintro e w' ⟨rfl,rfl⟩)
 go_ret;exact ⟨rfl,Below.refl _ _⟩
theorem jAr (r:Nat) (hv:zS r) (w:World) :
  Calls Tryz.prog 79 #[.int .i32 r] w fun e w'=>e = .returned (.string (qE r))∧Below w.heap.size w w':=by
 by_cases h34:r=34
 ·subst h34; rw [qJc]; exact jSm w
 by_cases h92:r=92
 ·subst h92; rw [qJd]; exact jSn w
 have hne:((r:Int)==34)=false∧((r:Int)==92)=false:=by simp; omega
 by_cases hn:∃ k,k<9∧r=uJ k
 ·obtain ⟨k,hk,e⟩:=hn;have hb:(0:Int)≤r∧(r:Int)≤100:=by
   have h9:k=0∨k=1∨k=2∨k=3∨k=4∨k=5∨k=6∨k=7∨k=8:=by omega
   rcases h9 with rfl | rfl | rfl | rfl | rfl | rfl | rfl | rfl | rfl<;>simp only [uJ] at e<;>omega
  exact jKx r k r (Lib.hid rfl) hk (Lib.hid e) hb hne (Lib.hid hv) w
 have hn':∀ k,k<9→(uJ k:Int)≠r:=fun k hk e=>hn ⟨k,hk,by omega⟩
 have hl:dI r=true:=by
  unfold dI;simp only [Bool.and_eq_true,bne_iff_ne,ne_eq,List.all_eq_true,List.mem_range];exact ⟨⟨h34,h92⟩,fun k hk e=>hn ⟨k,hk,e.symm⟩⟩
 cases hp:zF (r:Int) with
 | true=>exact jGr r r (Lib.hid rfl) (by unfold zS at hv; omega) hne (Lib.hid (jSv r hl hp)) (Lib.hid hn') (Lib.hid hv) (Lib.hid hp) w
 | false=>
  have hu:=jWo hv hp;exact jPb r r (Lib.hid rfl) (by omega) hne (Lib.hid (jSu r hv hl hp)) (Lib.hid hn') (Lib.hid hv) (Lib.hid hp) w
end
noncomputable section
set_option linter.all false
open Go.RowKit
theorem jEb {w:World} {a:Addr} {v:Value} (h:w.cell? a=some v):a.block<w.heap.size:=by
 rcases Nat.lt_or_ge a.block w.heap.size with hlt | hge
 ·exact hlt
 ·unfold World.cell? at h;simp [Array.getElem?_eq_none hge] at h
theorem jKp (a b:List UInt8):mkS (a++b)=mkS a++mkS b:=by
 apply ByteArray.ext;simp [mkS]
theorem lA (a b c:ByteArray):a++b++c=a++(b++c):=by
 apply ByteArray.ext;simp
theorem eZ (a:ByteArray):a++mkS []=a:=by
 apply ByteArray.ext;simp [mkS]
theorem jVj (s:ByteArray):mkS s.data.toList=s:=by
 apply ByteArray.ext;simp [mkS]
theorem qRv (s:ByteArray) (k:Nat) (h:k<s.size):s.extract k (k+1)=mkS [s[k]]:=by
 apply ByteArray.ext;apply Array.toList_inj.1;rw [ByteArray.data_extract,Array.toList_extract];show List.take (k+1 - k) _=_;rw [show k+1 - k=1 from by omega,rR s k h]
 rfl
set_option maxRecDepth 100000 in
set_option maxHeartbeats 4000000 in
theorem jSl (s:ByteArray) (w:World) (hs:s.size≤4200000000) (h1:qN s=true) :
  Calls Tryz.prog 49 #[.string s,.bool true] w fun e w'=>e = .returned (.string (xQ s true))∧Below w.heap.size w w':=by
 obtain ⟨R,hR⟩:∃ R,R=xQ s true:=⟨_,rfl⟩;rw [←hR];have HR:Hid (R=⟨#[39]⟩++mkS (s.data.toList.flatMap dbl)++⟨#[39]⟩):=Lib.hid (by rw [hR,xQ,if_pos ⟨rfl,h1⟩,jSp]; rfl)
 clear hR;go_enter Tryz.func49,Tryz.ntmps49;go_wp2_with (go_at_call 77; refine (vV s _ hs).mono ?_; rintro e w1 ⟨rfl,hb1⟩; rw [h1]);go_loop [5,6] (fun t i=>∃ (k:Nat) (u:ByteArray),i = .int .i64 k∧t = .string u∧k≤s.size∧u.size≤2*k+1∧Hid ((⟨#[39]⟩:ByteArray)++mkS (s.data.toList.flatMap dbl)=u++mkS ((s.data.toList.drop k).flatMap dbl))) (fun _ i=>s.size - (intOf i).toNat)
 case atStart=>exact ⟨0,_,rfl,rfl,Nat.zero_le _,by decide,rfl⟩
 case round=>
  obtain ⟨k,u,rfl,rfl,hk,hu,HK⟩:=hrel;by_cases hlt:k<s.size
  ·have HX:Hid (s.extract k (k+1)=mkS [s[k]]):=Lib.hid (qRv s k hlt);have HF:Hid ((s.data.toList.drop k).flatMap dbl=dbl s[k]++(s.data.toList.drop (k+1)).flatMap dbl):=Lib.hid (by rw [rR s k hlt,List.flatMap_cons])
   have hxs:(s.extract k (k+1)).size=1:=by rw [HX.out]; rfl
   cases h39:((s[k].toNat:Int)==39)
   ·have HD:Hid (dbl s[k]=[s[k]]):=Lib.hid (by unfold dbl; rw [if_neg]; intro e; rw [e] at h39; exact absurd h39 (by decide))
    go_wp2;refine ⟨⟨k+1,_,by go_num,rfl,by omega,by rw [ByteArray.size_append]; omega,Lib.hid ?_⟩,by simp [intOf]; omega⟩
    rw [HK.out,HF.out,HD.out,HX.out,jKp,lA]
   ·have hc:s[k]=39:=by
     have:(s[k].toNat:Int)=39:=by simpa using h39
     exact UInt8.toNat_inj.1 (by exact_mod_cast this)
    have HD:Hid (dbl s[k]=[39,s[k]]):=Lib.hid (by rw [hc]; rfl)
    clear hc;go_wp2;refine ⟨⟨k+1,_,by go_num,rfl,by omega,by rw [ByteArray.size_append,ByteArray.size_append]; show u.size+1+_≤_; omega,Lib.hid ?_⟩,by simp [intOf]; omega⟩
    rw [HK.out,HF.out,HD.out,HX.out];apply ByteArray.ext;simp [mkS]
  ·have HE:Hid (R=u++⟨#[39]⟩):=Lib.hid (by
    rw [HR.out,HK.out,List.drop_eq_nil_of_le (by simpa using hlt)]
    rw [List.flatMap_nil,eZ])
   go_wp2;go_ret;exact ⟨jL HE.out.symm,hb1⟩
theorem jQe {r:Nat} (h:zS r):Lib.validRune (r:Int)=true:=by
 unfold zS at h;simp only [Lib.validRune,decide_eq_true_eq];omega
set_option maxRecDepth 100000 in
set_option maxHeartbeats 4000000 in
theorem jEz (s:ByteArray) (single:Bool) (w:World) (hs:s.size≤4200000000) (h1:single=true→qN s=false) :
  Calls Tryz.prog 49 #[.string s,.bool single] w fun e w'=>e = .returned (.string (xQ s single))∧Below w.heap.size w w':=by
 obtain ⟨R,hR⟩:∃ R,R=xQ s single:=⟨_,rfl⟩;rw [←hR];have hlen:=aD s s.size 0;have HV:=Lib.hid (pL s s.size 0);have HRu:∀ w,Hid (Calls Tryz.prog 78 #[.string s] w fun e w'=>∃ v,e = .returned v∧w'.ownsRow w.heap.size 21 1 v (zK s s.size 0).length (mV (zK s s.size 0))∧Below w.heap.size w w'):=fun w=>Lib.hid (iH s w hs);have HR:Hid (R=⟨#[34]⟩++mkS ((zK s s.size 0).flatMap fun r=>(qE r).data.toList)++⟨#[34]⟩):=Lib.hid (by
  rw [hR,xQ,if_neg (fun h=>by have:=h1 h.1; rw [h.2] at this; cases this),iP]
  apply ByteArray.ext;simp [mkS])
 clear hR;generalize zK s s.size 0=l at *;have hsg:single=true→qN s=false:=h1;cases single
 ·go_enter Tryz.func49,Tryz.ntmps49;go_wp2_with (go_at_call 78; refine (HRu _).out.mono ?_; rintro e w1 ⟨v,rfl,hown,hb1⟩);rcases hown.2 with ⟨rfl,h0⟩ | ⟨g,cap,cur,rfl,hg,hgg,hrest⟩
  ·have hl:l=[]:=List.eq_nil_of_length_eq_zero h0;subst hl;have HE:Hid (R=(⟨#[34]⟩:ByteArray)++⟨#[34]⟩):=Lib.hid (by rw [HR.out,List.flatMap_nil,eZ])
   go_loop [7,9] (fun t v=>t = .string ⟨#[34]⟩∧v = .int .i64 (0:Nat)) (fun _ v=>0)
   case atStart=>exact ⟨rfl,rfl⟩
   case round=>
    obtain ⟨rfl,rfl⟩:=hrel;go_wp2;go_ret;exact ⟨jL HE.out.symm,hb1⟩
  ·have HC:Hid (∀ (k r:Nat),l[k]?=some r→w1.cell? ⟨g,k,none⟩=some (.int .i32 (r:Int))):=Lib.hid (fun k r h=>by
    have:=hown.cells (g:=g) rfl k _ (aB h)
    rwa [qGh] at this)
   clear hown hgg hrest;go_loopw [7,9] (fun t i wr=>∃ (k:Nat) (u:ByteArray),i = .int .i64 k∧t = .string u∧k≤l.length∧u.size≤16*k+1∧Below w1.heap.size w1 wr∧Hid ((⟨#[34]⟩:ByteArray)++mkS (l.flatMap fun r=>(qE r).data.toList)=u++mkS ((l.drop k).flatMap fun r=>(qE r).data.toList))) (fun _ i _=>l.length - (intOf i).toNat)
   case atStart=>exact ⟨0,_,rfl,rfl,Nat.zero_le _,by decide,Below.refl _ _,rfl⟩
   case round=>
    obtain ⟨k,u,rfl,rfl,hk,hu,hbr,HK⟩:=hrel;by_cases hlt:k<l.length
    ·obtain ⟨r,hr⟩:∃ r,l[k]?=some r:=⟨_,List.getElem?_eq_getElem hlt⟩;have hv:=HV.out r (List.mem_of_getElem? hr);have hss:=sK r (jQe hv);have hc:wr.cell? ⟨g,k,none⟩=some (.int .i32 (r:Int)):=(hbr.cell (p:=⟨g,k,none⟩) (by have:=HC.out k r hr; exact jEb this)).trans (HC.out k r hr)
     have HF:Hid ((l.drop k).flatMap (fun r=>(qE r).data.toList)=(qE r).data.toList++(l.drop (k+1)).flatMap fun r=>(qE r).data.toList):=Lib.hid (by
      obtain ⟨hlt2,e⟩:=List.getElem?_eq_some_iff.1 hr;rw [List.drop_eq_getElem_cons hlt2,List.flatMap_cons,e])
     have HSh:∀ w,Hid (Calls Tryz.prog 79 #[.int .i32 r] w fun e w'=>e = .returned (.string (qE r))∧Below w.heap.size w w'):=fun w=>Lib.hid (jAr r hv w);clear hr hv;generalize hx:qE r=x at *;clear hx;go_wp2_with (go_at_call 79; refine (HSh _).out.mono ?_; rintro e w3 ⟨rfl,hb3⟩);refine ⟨⟨k+1,_,by go_num,rfl,by omega,by rw [ByteArray.size_append]; omega,hbr.trans (hb3.mono hbr.size),Lib.hid ?_⟩,by simp [intOf]; omega⟩
     rw [HK.out,HF.out,jKp,jVj,lA]
    ·have HE:Hid (R=u++⟨#[34]⟩):=Lib.hid (by rw [HR.out,HK.out,List.drop_eq_nil_of_le (by omega),List.flatMap_nil,eZ])
     go_wp2;go_ret;exact ⟨jL HE.out.symm,hb1.trans (hbr.mono hb1.size)⟩
 ·have hf:=hsg rfl;clear hsg h1;go_enter Tryz.func49,Tryz.ntmps49;go_wp2_with (first | (go_at_call 77; refine (vV s _ hs).mono ?_; rintro e w0 ⟨rfl,hb0⟩; rw [hf]) | (go_at_call 78; refine (HRu _).out.mono ?_; rintro e w1 ⟨v,rfl,hown,hb1'⟩; have hb1:=hb0.trans (hb1'.mono hb0.size)))
  rcases hown.2 with ⟨rfl,h0⟩ | ⟨g,cap,cur,rfl,hg,hgg,hrest⟩
  ·have hl:l=[]:=List.eq_nil_of_length_eq_zero h0;subst hl;have HE:Hid (R=(⟨#[34]⟩:ByteArray)++⟨#[34]⟩):=Lib.hid (by rw [HR.out,List.flatMap_nil,eZ])
   go_loop [7,9] (fun t v=>t = .string ⟨#[34]⟩∧v = .int .i64 (0:Nat)) (fun _ v=>0)
   case atStart=>exact ⟨rfl,rfl⟩
   case round=>
    obtain ⟨rfl,rfl⟩:=hrel;go_wp2;go_ret;exact ⟨jL HE.out.symm,hb1⟩
  ·have HC:Hid (∀ (k r:Nat),l[k]?=some r→w1.cell? ⟨g,k,none⟩=some (.int .i32 (r:Int))):=Lib.hid (fun k r h=>by
    have:=hown.cells (g:=g) rfl k _ (aB h)
    rwa [qGh] at this)
   clear hown hgg hrest;go_loopw [7,9] (fun t i wr=>∃ (k:Nat) (u:ByteArray),i = .int .i64 k∧t = .string u∧k≤l.length∧u.size≤16*k+1∧Below w1.heap.size w1 wr∧Hid ((⟨#[34]⟩:ByteArray)++mkS (l.flatMap fun r=>(qE r).data.toList)=u++mkS ((l.drop k).flatMap fun r=>(qE r).data.toList))) (fun _ i _=>l.length - (intOf i).toNat)
   case atStart=>exact ⟨0,_,rfl,rfl,Nat.zero_le _,by decide,Below.refl _ _,rfl⟩
   case round=>
    obtain ⟨k,u,rfl,rfl,hk,hu,hbr,HK⟩:=hrel;by_cases hlt:k<l.length
    ·obtain ⟨r,hr⟩:∃ r,l[k]?=some r:=⟨_,List.getElem?_eq_getElem hlt⟩;have hv:=HV.out r (List.mem_of_getElem? hr);have hss:=sK r (jQe hv);have hc:wr.cell? ⟨g,k,none⟩=some (.int .i32 (r:Int)):=(hbr.cell (p:=⟨g,k,none⟩) (by have:=HC.out k r hr; exact jEb this)).trans (HC.out k r hr)
     have HF:Hid ((l.drop k).flatMap (fun r=>(qE r).data.toList)=(qE r).data.toList++(l.drop (k+1)).flatMap fun r=>(qE r).data.toList):=Lib.hid (by
      obtain ⟨hlt2,e⟩:=List.getElem?_eq_some_iff.1 hr;rw [List.drop_eq_getElem_cons hlt2,List.flatMap_cons,e])
     have HSh:∀ w,Hid (Calls Tryz.prog 79 #[.int .i32 r] w fun e w'=>e = .returned (.string (qE r))∧Below w.heap.size w w'):=fun w=>Lib.hid (jAr r hv w);clear hr hv;generalize hx:qE r=x at *;clear hx;go_wp2_with (go_at_call 79; refine (HSh _).out.mono ?_; rintro e w3 ⟨rfl,hb3⟩);refine ⟨⟨k+1,_,by go_num,rfl,by omega,by rw [ByteArray.size_append]; omega,hbr.trans (hb3.mono hbr.size),Lib.hid ?_⟩,by simp [intOf]; omega⟩
     rw [HK.out,HF.out,jKp,jVj,lA]
    ·have HE:Hid (R=u++⟨#[34]⟩):=Lib.hid (by rw [HR.out,HK.out,List.drop_eq_nil_of_le (by omega),List.flatMap_nil,eZ])
     go_wp2;go_ret;exact ⟨jL HE.out.symm,hb1.trans (hbr.mono hb1.size)⟩
theorem jKw (s:ByteArray) (single:Bool) (w:World) (hs:s.size≤4200000000) :
  Calls Tryz.prog 49 #[.string s,.bool single] w fun e w'=>e = .returned (.string (xQ s single))∧Below w.heap.size w w':=by
 cases single
 ·exact jEz s false w hs (fun h=>by cases h)
 ·cases h:qN s
  ·exact jEz s true w hs (fun _=>h)
  ·exact jSl s w hs h
end
end Go.Proofs.YtdlhiljbhepliaaGreatDoor
