/-
A checker of the conditions of runs, computed: linear terms, what is hY, values told by terms. Definitions alone. No program is named here.
-/
import Derived.Test.YthfmepmchaofjaaGreatWd
section
set_option linter.all false
namespace Go.Proofs.YthfmepmchaofjaaGreat.Ev.Rf
noncomputable section
open Go
structure LT where
 c : Int
 l : List (Nat × Int)
structure Rv where
 z : Int
 l : List (Nat × Nat)
 g : Nat
structure Gn where
 v : Nat
 o : Nat
def g0 : Gn := ⟨0, 0⟩
def Gn.up (g : Gn) : Gn := ⟨g.v, Nat.succ g.o⟩
abbrev Rho := Nat → Rv
def geZ : Int → Bool
 | .ofNat _ => true
 | .negSucc _ => false
def isZ : Int → Bool
 | .ofNat m => Nat.beq m 0
 | .negSucc _ => false
def jHe (v : Nat) (a : Int) : List (Nat × Int) → List (Nat × Int)
 | [] => [(v, a)]
 | p :: r => bif Nat.beq v p.1 then wL (a + p.2) fun s => bif isZ s then r else (v, s) :: r else bif Nat.blt p.1 v then (v, a) :: p :: r else p :: jHe v a r
def jKu : List (Nat × Int) → List (Nat × Int) → List (Nat × Int)
 | [], m => m
 | p :: r, m => jHe p.1 p.2 (jKu r m)
def jAp (k : Int) : List (Nat × Int) → List (Nat × Int)
 | [] => []
 | p :: r => wL (k * p.2) fun a => (p.1, a) :: jAp k r
def LT.con (c : Int) : LT := ⟨c, []⟩
def LT.var (v : Nat) : LT := ⟨0, [(v, 1)]⟩
def LT.add (s t : LT) : LT := wL (s.c + t.c) fun c => ⟨c, jKu s.l t.l⟩
def LT.smul (k : Int) (t : LT) : LT := bif isZ k then ⟨0, []⟩ else wL (k * t.c) fun c => ⟨c, jAp k t.l⟩
def LT.sub (s t : LT) : LT := s.add (t.smul (-1))
def LT.addc (t : LT) (k : Int) : LT := wL (t.c + k) fun c => ⟨c, t.l⟩
def LT.neg (t : LT) : LT := t.smul (-1)
def LT.isC (t : LT) : Bool := match t.l with
 | [] => true
 | _ :: _ => false
def evL (ρ : Rho) : List (Nat × Int) → Int
 | [] => 0
 | p :: r => p.2 * (ρ p.1).z + evL ρ r
def LT.ev (ρ : Rho) (t : LT) : Int := t.c + evL ρ t.l
def scL (n : Nat) : List (Nat × Int) → Bool
 | [] => true
 | p :: r => Nat.blt p.1 n && scL n r
def LT.sc (n : Nat) (t : LT) : Bool := scL n t.l
def jOl : List (Nat × Int) → List (Nat × Int) → Bool
 | [], [] => true
 | p :: r, q :: s => Nat.beq p.1 q.1 && (eqI p.2 q.2 && jOl r s)
 | _, _ => false
def LT.beq (s t : LT) : Bool := eqI s.c t.c && jOl s.l t.l
def qCl (v : Nat) : List (Nat × Int) → Int
 | [] => 0
 | p :: r => bif Nat.beq p.1 v then p.2 else bif Nat.blt p.1 v then 0 else qCl v r
def jSv (a b : Int) (t f : LT) : Option LT := match a, b with
 | .ofNat m, .ofNat k => (match m, k with
  | 0, _ => none
  | _ + 1, 0 => none
  | m + 1, k + 1 => some ((t.smul (.ofNat (k + 1))).add (f.smul (.negSucc m))))
 | .negSucc m, .negSucc k => some ((t.smul (.ofNat (k + 1))).add (f.smul (.negSucc m)))
 | _, _ => none
def Gn.den (ρ : Rho) (g : Gn) : Nat := (match g.v with | 0 => 0 | j + 1 => (ρ j).g) + g.o
def Gn.sc (n : Nat) (g : Gn) : Bool := Nat.ble g.v n
def Gn.beq (g h : Gn) : Bool := Nat.beq g.v h.v && Nat.beq g.o h.o
inductive SX where
 | b (x : Bool)
 | bv (t : LT)
 | i (k : IntKind) (t : LT)
 | s (n c : LT)
 | p0
 | sl0
 | tp (i : Nat) (g : Gn) (off : Nat)
 | te (i : Nat) (g : Gn) (k : LT) (off : Nat)
 | ts (i : Nat) (g : Gn) (n : LT) (sz : Nat)
 | q (T : Nat) (r n : LT)
 | qp (T : Nat) (r : LT) (off : Nat)
 | qs (j : Nat)
 | xs (n c : LT)
 | f (fn : Nat) (a c : List SX)
 | agg (l : List SX)
 | tup (l : List SX)
 | fis (n : LT)
 | fqs
inductive HCX where
 | l (l : List SX)
 | r (T : Nat) (r n : LT)
 | xs (j : Nat)
 | rl (T : Nat) (r n : LT) (l : List SX)
 | dead
structure HX where
 e : Nat
 g : Gn
 c : HCX
abbrev EX := List (Nat × SX)
inductive TE where
 | by_ (c t r : LT)
 | el (j : Nat) (t n c : LT)
 | ln (j : Nat) (n m : LT)
 | ca (f : Nat) (a : List SX) (r : SX)
 | dv (a : LT) (b : Int) (q : LT)
structure Sx where
 n : Nat
 E : EX
 H : List HX
 F : List LT
 N : List LT
 B : List TE
mutual
noncomputable def SX.den (ρ : Rho) : SX → SV
 | .b x => .b x
 | .bv t => .b (decide (0 < t.ev ρ))
 | .i k t => .i k (t.ev ρ)
 | .s n c => .s (n.ev ρ).toNat (c.ev ρ).toNat
 | .p0 => .p0
 | .sl0 => .sl0
 | .tp i g o => .tp i (g.den ρ) o
 | .te i g k o => .te i (g.den ρ) (k.ev ρ).toNat o
 | .ts i g n z => .ts i (g.den ρ) (n.ev ρ).toNat z
 | .q T r n => .q T (r.ev ρ).toNat (n.ev ρ).toNat
 | .qp T r o => .qp T (r.ev ρ).toNat o
 | .qs j => .qs (ρ j).l
 | .xs n c => .xs ((n.ev ρ).toNat, (c.ev ρ).toNat)
 | .f fn a c => .f fn (jW ρ a) (jW ρ c)
 | .agg l => .agg (jW ρ l)
 | .tup l => .tup (jW ρ l)
 | .fis n => .fis (n.ev ρ).toNat
 | .fqs => .fqs
noncomputable def jW (ρ : Rho) : List SX → List SV
 | [] => []
 | x :: l => x.den ρ :: jW ρ l
end
noncomputable def HCX.den (ρ : Rho) : HCX → HC
 | .l m => .l (jW ρ m)
 | .r T R n => .r T (R.ev ρ).toNat (n.ev ρ).toNat
 | .xs j => .xs (ρ j).l
 | .rl T R n m => .rl T (R.ev ρ).toNat (n.ev ρ).toNat (jW ρ m)
 | .dead => .dead
noncomputable def HX.den (ρ : Rho) (h : HX) : HB := ⟨h.e, h.g.den ρ, h.c.den ρ⟩
noncomputable def denH (ρ : Rho) (H : List HX) : Hp := H.map (HX.den ρ)
noncomputable def denE (ρ : Rho) : EX → Env
 | [] => []
 | p :: r => (p.1, p.2.den ρ) :: denE ρ r
mutual
def SX.sc (n : Nat) : SX → Bool
 | .b _ => true
 | .bv t => t.sc n
 | .i _ t => t.sc n
 | .s a c => a.sc n && c.sc n
 | .p0 => true
 | .sl0 => true
 | .tp _ g _ => g.sc n
 | .te _ g k _ => g.sc n && k.sc n
 | .ts _ g a _ => g.sc n && a.sc n
 | .q _ r a => r.sc n && a.sc n
 | .qp _ r _ => r.sc n
 | .qs j => Nat.blt j n
 | .xs a c => a.sc n && c.sc n
 | .f _ a c => scs n a && scs n c
 | .agg l => scs n l
 | .tup l => scs n l
 | .fis a => a.sc n
 | .fqs => true
def scs (n : Nat) : List SX → Bool
 | [] => true
 | x :: l => x.sc n && scs n l
end
def HCX.sc (n : Nat) : HCX → Bool
 | .l m => scs n m
 | .r _ R a => R.sc n && a.sc n
 | .xs j => Nat.blt j n
 | .rl _ R a m => R.sc n && (a.sc n && scs n m)
 | .dead => true
def scH (n : Nat) : List HX → Bool
 | [] => true
 | h :: r => h.g.sc n && (h.c.sc n && scH n r)
def scF (n : Nat) : List LT → Bool
 | [] => true
 | t :: r => t.sc n && scF n r
def TE.sc (n : Nat) : TE → Bool
 | .by_ c t r => c.sc n && (t.sc n && r.sc n)
 | .el j t a c => Nat.blt j n && (t.sc n && (a.sc n && c.sc n))
 | .ln j a m => Nat.blt j n && (a.sc n && m.sc n)
 | .ca _ a r => scs n a && r.sc n
 | .dv a _ q => a.sc n && q.sc n
def scB (n : Nat) : List TE → Bool
 | [] => true
 | t :: r => t.sc n && scB n r
def scE (n : Nat) : EX → Bool
 | [] => true
 | p :: r => p.2.sc n && scE n r
mutual
def SX.beq : SX → SX → Bool
 | .b x, .b y => bif x then y else !y
 | .bv s, .bv t => s.beq t
 | .i k s, .i k' t => eqK k k' && s.beq t
 | .s n c, .s m d => n.beq m && c.beq d
 | .p0, .p0 => true
 | .sl0, .sl0 => true
 | .tp i g o, .tp i' g' o' => Nat.beq i i' && (g.beq g' && Nat.beq o o')
 | .te i g k o, .te i' g' k' o' => Nat.beq i i' && (g.beq g' && (k.beq k' && Nat.beq o o'))
 | .ts i g k o, .ts i' g' k' o' => Nat.beq i i' && (g.beq g' && (k.beq k' && Nat.beq o o'))
 | .q T r n, .q T' r' n' => Nat.beq T T' && (r.beq r' && n.beq n')
 | .qp T r o, .qp T' r' o' => Nat.beq T T' && (r.beq r' && Nat.beq o o')
 | .qs j, .qs k => Nat.beq j k
 | .xs n c, .xs m d => n.beq m && c.beq d
 | .f g a c, .f g' a' c' => Nat.beq g g' && (jAu a a' && jAu c c')
 | .agg l, .agg m => jAu l m
 | .tup l, .tup m => jAu l m
 | .fis a, .fis b => a.beq b
 | .fqs, .fqs => true
 | _, _ => false
def jAu : List SX → List SX → Bool
 | [], [] => true
 | x :: l, y :: m => x.beq y && jAu l m
 | _, _ => false
end
mutual
def ofX : AV → SX
 | .b x => .b x
 | .i k n => .i k (.con n)
 | .s n v => .s (.con (.ofNat n)) (.con (.ofNat v))
 | .p0 => .p0
 | .sl0 => .sl0
 | .agg l => .agg (sR l)
 | .tup l => .tup (sR l)
 | .f fn a c => .f fn (sR a) (sR c)
 | _ => .tup []
def sR : List AV → List SX
 | [] => []
 | x :: l => ofX x :: sR l
end
def tT : SX := .tup []
inductive TyX where
 | i (k : IntKind)
 | b
 | s (m : Nat)
 | q (T : Nat) (d : Option Nat)
structure gE where
 k : Nat
 F : List LT
 N : List LT
 B : List TE
 r : SX
 H : List HX
structure CtX where
 np : Nat
 dep : LT
 args : List SX
 H : List HX
 F : List LT
 N : List LT
 B : List TE
 posts : List gE
structure Alt where
 k : Nat
 E : EX
 H : Option (List (Option HX))
 F : List LT
 N : List LT
 B : List TE
 m : LT
inductive CvX where
 | lit (n m : Nat)
 | frz (n : Nat)
 | slot (n e : Nat) (c : HCX)
 | cell (i off e : Nat) (c : HCX)
structure Ann where
 once : Bool
 ks : List Nat
 sp : List LT
 se : List LT
 cv : List (CvX × Nat)
 alts : List Alt
structure PX where
 ct : Nat → List TyX
 cp : Nat → Bool
 ak : Nat → Option AK
 bt : Nat → Option (List AT)
 sg : Nat → List AT × AT
 cs : Nat → List CtX
 rl : Bool
 fz : Bool
 rv : Nat
 rf : Bool
def TyX.at (r : Nat) : TyX → Ty
 | .i k => .i k
 | .b => .b
 | .s m => .s m
 | .q T none => .q T 0
 | .q T (some d) => .q T (r - d)
def PX.C (P : PX) (G : Nat → List SV → SV → Prop) : Cx := ⟨fun T r => (P.ct T).map (TyX.at r), fun T r => if P.cp T = true then 1 ≤ r else True, fun T => bif P.cp T then 1 else 0, P.ak, P.bt, P.sg, G⟩
end
end Go.Proofs.YthfmepmchaofjaaGreat.Ev.Rf
end
section
set_option linter.all false
namespace Go.Proofs.YthfmepmchaofjaaGreat.Ev.Rf
noncomputable section
open Go
structure qAo where
 ask : List LT → LT → Nat
 asm : Sx → LT → Nat
 te : Sx → TE → Nat
 mg : Sx → Nat
 dn : Sx → Nat
 cst : List LT → LT → LT → Nat
structure Tp where
 m : Option qAo
 l : List Nat
inductive Rs where
 | ok (s : Tp)
 | bad (tag : Nat) (st : Sx) (g : List LT)
abbrev An := Tp → Rs
def done : An := fun s => .ok s
def qCj (tag : Nat) (st : Sx) (g : List LT) : An := fun _ => .bad tag st g
def no1 (tag : Nat) (st : Sx) : An := qCj tag st []
def jP (c : Bool) (tag : Nat) (st : Sx) (g : List LT) (r : An) : An := match c with
 | true => r
 | false => qCj tag st g
def tO (a b : An) : An := fun s => match a s with
 | .ok s => b s
 | .bad t st g => .bad t st g
def pop (st : Sx) (f : qAo → Nat) (k : Nat → An) : An := fun s => match s.m with
 | some m => (match f m with | c => k c ⟨s.m, c :: s.l⟩)
 | none => (match s.l with
  | [] => .bad 200 st []
  | c :: r => k c ⟨none, r⟩)
def jUr (k : Nat → An) (s : Tp) (st : Sx) : List An → Nat → Rs
 | [], _ => .bad 201 st []
 | a :: r, i => match a ⟨s.m, i :: s.l⟩ with
  | .ok s' => k i s'
  | .bad _ _ _ => jUr k s st r (Nat.succ i)
def sel (st : Sx) (l : List An) (k : Nat → An) : An := fun s => match s.m with
 | some _ => jUr k s st l 0
 | none => (match s.l with
  | [] => .bad 202 st []
  | c :: r => (match xT l c with
   | some a => tO a (k c) ⟨none, r⟩
   | none => .bad 203 st []))
def Sx.addF (st : Sx) (t : LT) : Sx := ⟨st.n, st.E, st.H, t :: st.F, st.N, st.B⟩
def Sx.addN (st : Sx) (t : LT) : Sx := ⟨st.n, st.E, st.H, st.F, t :: st.N, st.B⟩
def Sx.addB (st : Sx) (t : TE) : Sx := ⟨st.n, st.E, st.H, st.F, st.N, t :: st.B⟩
def Sx.setE (st : Sx) (E : EX) : Sx := ⟨st.n, E, st.H, st.F, st.N, st.B⟩
def Sx.setH (st : Sx) (H : List HX) : Sx := ⟨st.n, st.E, H, st.F, st.N, st.B⟩
def Sx.up (st : Sx) (n : Nat) : Sx := ⟨n, st.E, st.H, st.F, st.N, st.B⟩
def chk (F : List LT) : Nat → Nat → LT → Bool
 | 0, _, _ => false
 | n + 1, c, t => match t.l with
  | [] => geZ t.c
  | p :: _ => match xT F (Nat.pred (Nat.mod c 1024)) with
   | some f => (match jSv p.2 (qCl p.1 f.l) t f with
    | some u => chk F n (Nat.div c 1024) u
    | none => false)
   | none => false
def ask (st : Sx) (t : LT) (r : An) : An := match t.l with
 | [] => jP (geZ t.c) 1 st [t] r
 | _ :: _ => pop st (fun m => m.ask st.F t) fun c => jP (chk st.F 40 c t) 1 st [t] r
def LT.not (t : LT) : LT := (t.smul (-1)).addc (-1)
def inN (d : LT) : List LT → Bool
 | [] => false
 | x :: r => d.beq x || (d.neg.beq x || inN d r)
def eV (st : Sx) (t : LT) (k : Sx → An) : Nat → Nat → An
 | 0, _ => jP (t.sc st.n) 2 st [t] (k (st.addF t))
 | n + 1, c => match Nat.mod c 4 with
  | 0 => jP (t.sc st.n) 2 st [t] (k (st.addF t))
  | 1 => k st
  | 2 => jP (chk st.F 40 (Nat.div c 4) t.not) 204 st [t] done
  | _ => (match xT st.N (Nat.div c 4) with
   | some d => jP (d.beq t || d.neg.beq t) 205 st [t] (pop st (fun m => m.asm st (t.addc (-1))) (eV st (t.addc (-1)) k n))
   | none => no1 206 st)
def zT (st : Sx) (t : LT) (k : Sx → An) : An := match t.l with
 | [] => bif geZ t.c then k st else done
 | _ :: _ => pop st (fun m => m.asm st t) (eV st t k 1)
def fresh (st : Sx) (k : LT → Sx → An) : An := jZ (Nat.succ st.n) fun m => k (.var st.n) (st.up m)
def xge (st : Sx) (t : LT) (k : Bool → Sx → An) : An := match t.l with
 | [] => k (geZ t.c) st
 | _ :: _ => tO (zT st t (k true)) (zT st t.not (k false))
def jXj (st : Sx) (d : LT) (k : Sx → An) : An := match d.l with
 | [] => bif isZ d.c then done else k st
 | _ :: _ => sel st [ask st d done, ask st d.neg done, done] fun i => match i with
  | 0 => zT st (d.addc (-1)) k
  | 1 => zT st (d.neg.addc (-1)) k
  | _ => jP (d.sc st.n) 3 st [d] (k (st.addN d))
def xeq (st : Sx) (d : LT) (k : Bool → Sx → An) : An := match d.l with
 | [] => k (isZ d.c) st
 | _ :: _ => bif inN d st.N then k false st else tO (zT st d fun st => zT st d.neg (k true)) (jXj st d (k false))
def vM (st : Sx) (a b : LT) (r : An) : An := bif a.beq b then r else ask st (a.sub b) (ask st (b.sub a) r)
def yN (E : EX) (n : Nat) : Option SX := List.rec (motive := fun _ => Option SX) none (fun p _ ih => Bool.rec (motive := fun _ => Option SX) ih (some p.2) (Nat.beq p.1 n)) E
theorem lF {p : Nat × SX} {l : EX} {n : Nat} : yN (p :: l) n = bif Nat.beq p.1 n then some p.2 else yN l n := by
 show Bool.rec (motive := fun _ => Option SX) (yN l n) (some p.2) (Nat.beq p.1 n) = _
 cases Nat.beq p.1 n <;> rfl
def xv (st : Sx) (x : X) (k : SX → An) : An := match x with
 | .k v => jP (okA v) 4 st [] (k (ofX v))
 | .t n => (match yN st.E n with | some v => k v | none => no1 5 st)
def xvs (st : Sx) (l : List X) (k : List SX → An) : An := match l with
 | [] => k []
 | x :: r => xv st x fun v => xvs st r fun l => k (v :: l)
abbrev K1 := SX → Sx → An
def jDp (k : IntKind) (t : LT) : List LT := match k with
 | .i64 => [t.addc 9223372036854775808, (t.neg).addc 9223372036854775807]
 | .u8 => [t, (t.neg).addc 255]
 | .i32 => [t.addc 2147483648, (t.neg).addc 2147483647]
 | .u64 => [t, (t.neg).addc 18446744073709551615]
 | _ => [.con (-1)]
def jJi (st : Sx) : List LT → An → An
 | [], k => k
 | t :: r, k => ask st t (jJi st r k)
def addFs (st : Sx) : List LT → Sx
 | [] => st
 | t :: r => (addFs st r).addF t
def jOt (k : IntKind) (st : Sx) (Q : K1) : An := jP (okK k) 6 st [] (fresh st fun v st => Q (.i k v) (addFs st (jDp k v)))
def jJe (k : IntKind) (t : LT) (st : Sx) (Q : K1) : An := jJi st (jDp k t) (Q (.i k t) st)
def oQ (a : LT) (b : Int) : List TE → Option LT
 | [] => none
 | t :: r => match t with
  | .dv a' b' q => bif a'.beq a && eqI b' b then some q else oQ a b r
  | _ => oQ a b r
def xDv (a b : LT) (st : Sx) (Q : LT → Sx → An) : An := jP (b.isC && (decide (0 < b.c) && a.sc st.n)) 202 st [a] (ask st a (match oQ a b.c st.B with
 | some q => Q q st
 | none => fresh st fun q st => Q q ((addFs st [q, a.sub (q.smul b.c), ((q.smul b.c).sub a).addc (b.c - 1)]).addB (.dv a b.c q))))
def xRm (a b : LT) (st : Sx) (Q : LT → Sx → An) : An := jP (a.sc st.n && b.sc st.n) 203 st [a, b] (ask st a (ask st (b.addc (-1)) (fresh st fun q st => Q q (addFs st [q, (b.sub q).addc (-1), a.sub q]))))
def xI (o : BinOp) (k : IntKind) (a b : LT) (st : Sx) (Q : K1) : An := match o with
 | .add => jJe k (a.add b) st Q
 | .sub => jJe k (a.sub b) st Q
 | .mul => bif a.isC then jJe k (b.smul a.c) st Q else bif b.isC then jJe k (a.smul b.c) st Q else no1 8 st
 | .quo => xDv a b st fun q st => jJe k q st Q
 | .rem => bif b.isC then xDv a b st fun q st => Q (.i k (a.sub (q.smul b.c))) st else xRm a b st fun q st => Q (.i k q) st
 | .and => jOt k st Q
 | .or => jOt k st Q
 | .eql => xeq st (a.sub b) fun r st => Q (.b r) st
 | .neq => xeq st (a.sub b) fun r st => Q (.b (!r)) st
 | .lss => xge st ((b.sub a).addc (-1)) fun r st => Q (.b r) st
 | .leq => xge st (b.sub a) fun r st => Q (.b r) st
 | .gtr => xge st ((a.sub b).addc (-1)) fun r st => Q (.b r) st
 | .geq => xge st (a.sub b) fun r st => Q (.b r) st
 | _ => no1 9 st
def xSh (o : BinOp) (k : IntKind) (a b : LT) (st : Sx) (Q : K1) : An := match o with
 | .shl => ask st b (jOt k st Q)
 | .shr => ask st b (jJi st (jDp k a) (jOt k st Q))
 | _ => no1 10 st
def jYa : Int := 1000000000000
def jQo : Int := 100000000000000
def jBb : Int := 1000000
def jXq (n v m u : LT) (st : Sx) (Q : Bool → Sx → An) : An :=
 bif n.beq m && v.beq u then Q true st else
 bif (n.isC && (v.isC && (m.isC && u.isC))) && ((geZ n.c && geZ v.c) && (geZ m.c && geZ u.c)) then Q (eqI n.c m.c && eqI v.c u.c) st else
 ask st n (ask st m (tO (zT st (n.sub m) fun st => zT st (m.sub n) (Q true))
  (bif m.isC && isZ m.c then zT st (n.addc (-1)) (Q false) else bif n.isC && isZ n.c then zT st (m.addc (-1)) (Q false) else Q false st)))
def xS (o : BinOp) (n v m u : LT) (st : Sx) (Q : K1) : An := match o with
 | .add => ask st n (ask st m (ask st ((n.add m).neg.addc jYa) (fresh st fun w st => Q (.s (n.add m) w) st)))
 | .eql => jXq n v m u st fun r st => Q (.b r) st
 | .neq => jXq n v m u st fun r st => Q (.b (!r)) st
 | _ => no1 11 st
def xBi (o : BinOp) (x y : SX) (st : Sx) (Q : K1) : An := match x, y with
 | .i k a, .i k' b => bif eW o then xSh o k a b st Q else jP (eqK k k') 12 st [] (xI o k a b st Q)
 | .s n v, .s m u => xS o n v m u st Q
 | _, _ => no1 13 st
def xUn (o : UnOp) (x : SX) (st : Sx) (Q : K1) : An := match o, x with
 | .not, .b b => Q (.b (!b)) st
 | .not, .bv t => Q (.bv (t.neg.addc 1)) st
 | .neg, .i k a => jJe k a.neg st Q
 | _, _ => no1 14 st
def jBe (v : SX) (st : Sx) (k : Bool → Sx → An) : An := match v with
 | .b x => k x st
 | .bv t => xge st (t.addc (-1)) k
 | _ => no1 15 st
def xU (c a b : SX) (st : Sx) (Q : K1) : An := jBe c st fun r st => Q (bif r then a else b) st
def xBe (g : Bool) (x y : SX) (st : Sx) (Q : K1) : An := jBe x st fun a st => jBe y st fun c st => Q (.b (bif g then !(a == c) else a == c)) st
def nU (v k : LT) : List TE → Option LT
 | [] => none
 | t :: r => match t with
  | .by_ c i b => bif c.beq v && i.beq k then some b else nU v k r
  | _ => nU v k r
def jSt (v k : Int) : Int := .ofNat (Nat.mod (Nat.div v.toNat (Nat.pow 256 k.toNat)) 256)
def xIx (x i : SX) (st : Sx) (Q : K1) : An := match x, i with
 | .s n v, .i _ k => ask st k (ask st ((n.sub k).addc (-1)) (
   bif v.isC && k.isC then Q (.i .u8 (.con (jSt v.c k.c))) st else
   match nU v k st.B with
   | some b => Q (.i .u8 b) st
   | none => jP (v.sc st.n && k.sc st.n) 16 st [v, k] (fresh st fun b st => Q (.i .u8 b) ((addFs st [b, b.neg.addc 255]).addB (.by_ v k b)))))
 | _, _ => no1 17 st
def jSf (x : SX) (st : Sx) (Q : LT → An) : An := match x with
 | .i _ k => Q k
 | _ => no1 18 st
def bK (st : Sx) (x : Option X) (d : LT) (Q : LT → An) : An := match x with
 | some x => xv st x fun v => jSf v st Q
 | none => Q d
def xSs (x : SX) (lo hi : Option X) (st : Sx) (Q : K1) : An := match x with
 | .s n v => ask st n (bK st lo (.con 0) fun a => bK st hi n fun b => ask st a (ask st (b.sub a) (ask st (n.sub b) (fresh st fun w st => Q (.s (b.sub a) w) st))))
 | _ => no1 19 st
def xLn (x : SX) (st : Sx) (Q : K1) : An := match x with
 | .s n _ => ask st n (Q (.i .i64 n) st)
 | _ => no1 20 st
def xMx (x y : SX) (st : Sx) (Q : K1) : An := match x, y with
 | .i k a, .i k' b => jP (eqK k k') 12 st [] (xge st (b.sub a) fun r st => Q (.i k (bif r then b else a)) st)
 | _, _ => no1 21 st
def xMn (x y : SX) (st : Sx) (Q : K1) : An := match x, y with
 | .i k a, .i k' b => jP (eqK k k') 12 st [] (xge st (b.sub a) fun r st => Q (.i k (bif r then a else b)) st)
 | _, _ => no1 22 st
def xCi (k : IntKind) (x : SX) (st : Sx) (Q : K1) : An := match x with
 | .i _ n => sel st [jJi st (jDp k n) done, done] fun i => match i with
  | 0 => jP (okK k) 6 st [] (Q (.i k n) st)
  | _ => jOt k st Q
 | _ => no1 23 st
def xEx (n : Nat) (x : SX) (st : Sx) (Q : K1) : An := match x with
 | .tup l => (match xT l n with | some v => Q v st | none => no1 24 st)
 | _ => no1 25 st
mutual
def hZ : SX → Bool
 | .b _ => true
 | .bv _ => true
 | .i _ _ => true
 | .s _ _ => true
 | .tup l => tR l
 | _ => false
def tR : List SX → Bool
 | [] => true
 | x :: l => hZ x && tR l
end
def qDi : SX → Bool
 | .agg _ => false
 | .tup _ => false
 | _ => true
def kT : List SX → Bool
 | [] => true
 | v :: r => qDi v && kT r
def uZ : SX → List SX
 | .agg l => l
 | v => [v]
def hbX (H : List HX) (i : Nat) (g : Gn) : Option HX := match xT H i with
 | some hb => bif hb.g.beq g then some hb else none
 | none => none
def jPr (R : LT) (d : Option Nat) : LT := match d with
 | none => .con 0
 | some d => R.addc (0 - .ofNat d)
def SSi : Int := 1000000
def xTy (R : LT) (t : TyX) (st : Sx) (Q : K1) : An := match t with
 | .i k => fresh st fun v st => Q (.i k v) st
 | .b => fresh st fun v st => Q (.bv v) (addFs st [v, v.neg.addc 1])
 | .s m => fresh st fun n st => fresh st fun c st => Q (.s n c) (addFs st [n, n.neg.addc (SSi + .ofNat m)])
 | .q T d => fresh st fun n st => Q (.q T (jPr R d) n) (addFs st [n, n.neg.addc jBb])
def jXs (R : LT) : List TyX → Sx → (List SX → Sx → An) → An
 | [], st, Q => Q [] st
 | t :: r, st, Q => xTy R t st fun v st => jXs R r st fun l st => Q (v :: l) st
def jMt (R : LT) (l : List TyX) (off : Nat) (n : Option Nat) (st : Sx) (Q : K1) : An := match n with
 | none => (match xT l off with | some t => xTy R t st Q | none => no1 26 st)
 | some n => (match zS n (zM off l) with | some l => jXs R l st fun l st => Q (.agg l) st | none => no1 27 st)
def xLd (P : PX) (n : Option Nat) (a : SX) (st : Sx) (Q : K1) : An := match a with
 | .tp i g off => (match hbX st.H i g with
  | some hb => (match hb.c with
   | .l l => (match n with
    | none => (match xT l off with | some v => Q v st | none => no1 28 st)
    | some n => (match zS n (zM off l) with | some l => Q (.agg l) st | none => no1 29 st))
   | _ => no1 30 st)
  | none => no1 31 st)
 | .te i g k off => (match hbX st.H i g with
  | some hb => (match hb.c with
   | .r T R _ => jMt R (P.ct T) off n st Q
   | .rl T R m l => ask st k (jP ((k.addc 1).beq m) 191 st [k, m] (match n with
    | none => (match xT l off with | some v => Q v st | none => no1 192 st)
    | some n => (match zS n (zM off l) with | some l => Q (.agg l) st | none => no1 193 st)))
   | _ => no1 32 st)
  | none => no1 33 st)
 | .qp T R off => jMt R (P.ct T) off n st Q
 | .xs m c => (match n with | none => Q (.s m c) st | some _ => no1 34 st)
 | .fqs => (match n with | none => fresh st fun v st => Q (.i .i64 v) st | some _ => no1 36 st)
 | _ => no1 35 st
def jWe : List TyX → Bool
 | [.s _] => true
 | _ => false
def jMh : List TyX → Nat
 | [.s m] => m
 | _ => 0
def sK (j : Nat) : List TE → Option (LT × LT)
 | [] => none
 | t :: r => match t with
  | .ln i n m => bif Nat.beq i j then some (n, m) else sK j r
  | _ => sK j r
def jWx (P : PX) (st : Sx) (R : LT) (t : TyX) (v : SX) (k : An) : An := match t, v with
 | .i d, .i d' _ => jP (eqK d d') 210 st [] k
 | .b, .b _ => k
 | .b, .bv _ => k
 | .s m, .s n _ => ask st (n.neg.addc (SSi + .ofNat m)) k
 | .q _ _, .sl0 => k
 | .q T d, .q T' R' _ => jP (Nat.beq T T') 211 st [] (ask st ((jPr R d).sub R') k)
 | .q T d, .qs j => jP (jWe (P.ct T) && !P.cp T) 212 st [] (match sK j st.B with | some (n, m) => ask st (n.neg.addc jBb) (ask st (m.neg.addc (SSi + .ofNat (jMh (P.ct T)))) k) | none => no1 213 st)
 | _, _ => no1 214 st
def jIb (P : PX) (st : Sx) (R : LT) : List TyX → List SX → An → An
 | [], [], k => k
 | t :: r, v :: l, k => jWx P st R t v (jIb P st R r l k)
 | _, _, _ => no1 215 st
def jQm : TyX → Bool
 | .q _ _ => false
 | .s m => Nat.beq m 0
 | _ => true
def eZ : List TyX → Bool
 | [] => true
 | t :: r => jQm t && eZ r
abbrev KH := Sx → Tch → An
def xSt (P : PX) (n : Nat) (a x : SX) (st : Sx) (Q : KH) : An := jP (zI n (uZ x) && kT (uZ x)) 36 st [] (match a with
 | .tp i g off => (match hbX st.H i g with
  | some hb => (match hb.c with
   | .l l => (match zY off (uZ x) l with | some l => jP (scs st.n l) 37 st [] (Q (st.setH (jJ st.H i ⟨hb.e, hb.g, .l l⟩)) ⟨false, [i]⟩) | none => no1 38 st)
   | _ => no1 39 st)
  | none => no1 40 st)
 | .te i g _ off => (match hbX st.H i g with
  | some hb => (match hb.c with
   | .r T _ _ => (match zS n (zM off (P.ct T)) with | some l => jP (Nat.ble off (jS (P.ct T))) 41 st [] (jIb P st (.con 0) l (uZ x) (Q st ⟨false, [i]⟩)) | none => no1 42 st)
   | _ => no1 43 st)
  | none => no1 44 st)
 | .qp T R off => (match zS n (zM off (P.ct T)) with | some l => jP (eZ l && (!jWe (P.ct T) && Nat.ble off (jS (P.ct T)))) 45 st [] (jIb P st R l (uZ x) (Q st ⟨true, []⟩)) | none => no1 46 st)
 | _ => no1 47 st)
def xNc (x : SX) (st : Sx) (Q : K1) : An := match x with
 | .tp i g off => (match hbX st.H i g with | some _ => Q (.tp i g off) st | none => no1 48 st)
 | .te i g k off => (match hbX st.H i g with
  | some hb => (match hb.c with | .r _ _ _ => Q (.te i g k off) st | .rl _ _ _ _ => Q (.te i g k off) st | _ => no1 49 st)
  | none => no1 50 st)
 | .qp T R off => Q (.qp T R off) st
 | .f f a c => Q (.f f a c) st
 | _ => no1 51 st
def xFa (off : Nat) (x : SX) (st : Sx) (Q : K1) : An := match x with
 | .tp i g o => (match hbX st.H i g with | some _ => jZ (Nat.add o off) fun o => Q (.tp i g o) st | none => no1 52 st)
 | .te i g k o => (match hbX st.H i g with
  | some hb => (match hb.c with | .r _ _ _ => jZ (Nat.add o off) fun o => Q (.te i g k o) st | .rl _ _ _ _ => jZ (Nat.add o off) fun o => Q (.te i g k o) st | _ => no1 53 st)
  | none => no1 54 st)
 | .qp T R o => jZ (Nat.add o off) fun o => Q (.qp T R o) st
 | .xs n c => jP (Nat.beq off 0) 55 st [] (Q (.xs n c) st)
 | _ => no1 56 st
def oM (j : Nat) (k : LT) : List TE → Option (LT × LT)
 | [] => none
 | t :: r => match t with
  | .el i u n c => bif Nat.beq i j && u.beq k then some (n, c) else oM j k r
  | _ => oM j k r
def xIa (P : PX) (sz : Nat) (x y : SX) (st : Sx) (Q : K1) : An := jSf y st fun k => match x with
 | .ts i g n sz' => jP (Nat.beq sz sz') 57 st [] (ask st k (ask st ((n.sub k).addc (-1)) (match hbX st.H i g with
  | some hb => (match hb.c with
   | .l _ => (match k.l with
    | [] => jZ (Nat.mul k.c.toNat sz) fun o => Q (.tp i g o) st
    | _ :: _ => pop st (fun m => m.cst st.F k n) fun c => ask st (k.addc (0 - .ofNat c)) (ask st (k.neg.addc (.ofNat c)) (jZ (Nat.mul c sz) fun o => Q (.tp i g o) st)))
   | .r T R _ => jP (Nat.beq sz (jS (P.ct T))) 59 st [] (Q (.te i g k 0) st)
   | .rl T R _ _ => jP (Nat.beq sz (jS (P.ct T))) 59 st [] (Q (.te i g k 0) st)
   | _ => no1 60 st)
  | none => no1 61 st)))
 | .q T R n => jP (Nat.beq sz (jS (P.ct T))) 62 st [] (ask st k (ask st ((n.sub k).addc (-1)) (bif P.cp T then zT st (R.addc (-1)) (Q (.qp T R 0)) else Q (.qp T R 0) st)))
 | .qs j => jP (Nat.beq sz 1) 63 st [] (match sK j st.B with
  | some (n, m) => ask st k (ask st ((n.sub k).addc (-1)) (match oM j k st.B with
   | some (a, c) => Q (.xs a c) st
   | none => jP (Nat.blt j st.n && (k.sc st.n && m.sc st.n)) 64 st [k] (fresh st fun a st => fresh st fun c st => Q (.xs a c) ((addFs st [a, m.sub a, c]).addB (.el j k a c)))))
  | none => no1 65 st)
 | .fis n => jP (Nat.beq sz 1) 67 st [] (ask st k (ask st ((n.sub k).addc (-1)) (Q .fqs st)))
 | _ => no1 66 st
def uE (H : List HX) (i : Nat) : List HX := match xT H i with
 | some hb => jJ H i ⟨hb.e, hb.g.up, .dead⟩
 | none => H
abbrev KO := SX → Sx → Tch → An
def xSl (P : PX) (sz : Nat) (x : SX) (lo hi : Option X) (st : Sx) (Q : KO) : An := match x with
 | .sl0 => bK st lo (.con 0) fun a => bK st hi (.con 0) fun b => ask st a (ask st (b.sub a) (ask st b.neg (Q .sl0 st t0)))
 | .q T R n => jP (Nat.beq sz (jS (P.ct T))) 67 st [] (ask st n (bK st lo (.con 0) fun a => bK st hi n fun b => ask st a (ask st (b.sub a) (ask st (n.sub b) (Q (.q T R (b.sub a)) st t0)))))
 | .qs j => jP (Nat.beq sz 1) 68 st [] (match sK j st.B with
  | some (n, m) => ask st n (bK st lo (.con 0) fun a => bK st hi n fun b => ask st a (ask st (b.sub a) (ask st (n.sub b) (jP (m.sc st.n && (a.sc st.n && b.sc st.n)) 69 st [] (fresh st fun j' st => Q (.qs (Nat.pred st.n)) (st.addB (.ln (Nat.pred st.n) (b.sub a) m)) t0)))))
  | none => no1 70 st)
 | .ts i g n sz' => (match hbX st.H i g with
  | some hb => (match hb.c with
   | .xs j => jP (Nat.beq sz 1) 71 st [] (match sK j st.B with
    | some (n, m) => ask st n (bK st lo (.con 0) fun a => bK st hi n fun b => ask st a (ask st (b.sub a) (ask st (n.sub b) (jP (m.sc st.n && (a.sc st.n && b.sc st.n)) 69 st [] (fresh st fun j' st => Q (.qs (Nat.pred st.n)) ((st.addB (.ln (Nat.pred st.n) (b.sub a) m)).setH (uE st.H i)) ⟨true, [i]⟩)))))
    | none => no1 72 st)
   | _ => no1 73 st)
  | none => no1 74 st)
 | _ => no1 75 st
def xLm (x : SX) (st : Sx) (Q : K1) : An := match x with
 | .sl0 => Q (.i .i64 (.con 0)) st
 | .ts i g n _ => (match hbX st.H i g with
  | some hb => (match hb.c with | .dead => no1 76 st | _ => ask st n (Q (.i .i64 n) st))
  | none => no1 77 st)
 | .q _ _ n => ask st n (Q (.i .i64 n) st)
 | .qs j => (match sK j st.B with | some (n, _) => ask st n (Q (.i .i64 n) st) | none => no1 78 st)
 | .fis n => ask st n (Q (.i .i64 n) st)
 | _ => no1 79 st
def jCg (st : Sx) : List (Nat × Nat × X) → List SX → (List SX → An) → An
 | [], z, Q => Q z
 | (off, n, x) :: r, z, Q => xv st x fun v => jP (zI n (uZ v) && kT (uZ v)) 80 st [] (match zY off (uZ v) z with | some z => jCg st r z Q | none => no1 81 st)
def jKg (st : Sx) (e : Nat) (c : HCX) (Q : Nat → Sx → Tch → An) : An := jP (c.sc st.n) 82 st [] (jZ (jS st.H) fun i => Q i (st.setH (st.H ++ [⟨e, g0, c⟩])) ⟨false, [i]⟩)
def rkC : TyX → SX → LT
 | .q _ (some _), .q _ R _ => R
 | _, _ => .con 0
def coX (P : PX) (T : Nat) : Int := bif P.cp T then 1 else 0
def jDe (P : PX) (st : Sx) (T : Nat) : List TyX → List SX → (LT → An) → An
 | [], [], Q => Q (.con 0)
 | t :: ts, v :: l, Q => ask st (rkC t v) (jWx P st ((rkC t v).addc (coX P T)) t v (jDe P st T ts l fun R => Q ((rkC t v).add R)))
 | _, _, _ => no1 216 st
def bV (P : PX) (st : Sx) (T : Nat) : Nat → List SX → (LT → An) → An
 | 0, l, Q => (match l with | [] => Q (.con 0) | _ :: _ => no1 216 st)
 | n + 1, l, Q => (match zS (jS (P.ct T)) l with | some r => jDe P st T (P.ct T) r fun x => bV P st T n (zM (jS (P.ct T)) l) fun R => Q ((x.add R).addc (coX P T)) | none => no1 217 st)
def jMi (P : PX) (T : Nat) (x : SX) (st : Sx) (Q : LT → LT → An) : An := match x with
 | .sl0 => Q (.con 0) (.con 0)
 | .q T' R' m => jP (Nat.beq T T') 83 st [R'] (ask st R' (Q R' m))
 | .ts j g m sz => jP (Nat.beq sz (jS (P.ct T))) 84 st [] (match hbX st.H j g with
  | some hb => (match hb.c with
   | .l l => (match m.l with | [] => bV P st T m.c.toNat l fun R => Q R m | _ :: _ => no1 86 st)
   | _ => no1 87 st)
  | none => no1 88 st)
 | _ => no1 89 st
def bR (st : Sx) (m : LT) : List SX → An → An
 | [], k => k
 | .s n _ :: r, k => ask st n (ask st (m.sub n) (bR st m r k))
 | _ :: _, _ => no1 218 st
def jGf (P : PX) (m : LT) (x : SX) (st : Sx) (Q : LT → An) : An := match x with
 | .sl0 => Q (.con 0)
 | .qs j => (match sK j st.B with | some (n, m') => ask st (m.sub m') (Q n) | none => no1 91 st)
 | .ts j g n sz => jP (Nat.beq sz 1) 92 st [] (match hbX st.H j g with
  | some hb => (match hb.c with
   | .l l => (match n.l with | [] => jP (zI n.c.toNat l && geZ n.c) 93 st [] (bR st m l (Q n)) | _ :: _ => no1 94 st)
   | _ => no1 95 st)
  | none => no1 96 st)
 | _ => no1 97 st
def jSq (st : Sx) (x : SX) (Q : List SX → An) : An := match x with
 | .ts j g m sz => jP (m.beq (.con 1)) 186 st [m] (match hbX st.H j g with
  | some hb => (match hb.c with
   | .l l => jP (zI sz l) 187 st [] (Q l)
   | _ => no1 188 st)
  | none => no1 189 st)
 | _ => no1 190 st
def tS (st : Sx) (n : LT) (by_ : Nat) (k : An) : An := ask st n (ask st ((n.smul (.ofNat by_)).neg.addc jQo) (ask st (n.neg.addc jQo) k))
def LM : LT := .con 30000
def xAp (P : PX) (e sz by_ : Nat) (s x : SX) (st : Sx) (Q : KO) : An := match s with
 | .sl0 => (match P.ak e with
  | some (.ty T r) => jP (Nat.beq sz (jS (P.ct T))) 98 st [] (jMi P T x st fun R m => tS st m by_ (jKg st e (.r T R m) fun i st t => Q (.ts i g0 m sz) st t))
  | some .str => jP (Nat.beq sz 1) 100 st [] (jGf P LM x st fun m => tS st m by_ (jP (m.sc st.n) 101 st [m] (fresh st fun _ st => jKg (st.addB (.ln (Nat.pred st.n) m LM)) e (.xs (Nat.pred st.n)) fun i st t => Q (.ts i g0 m sz) st t)))
  | none => no1 102 st)
 | .ts i g n sz' => jP (Nat.beq sz sz') 103 st [] (match hbX st.H i g with
  | some hb => jP (Nat.beq hb.e e) 104 st [] (match hb.c with
   | .r T R _ => jP (Nat.beq sz (jS (P.ct T))) 105 st [] (jMi P T x st fun R2 m => ask st R (ask st n (ask st m (tS st (n.add m) by_ (jP ((R.add R2).sc st.n && (n.add m).sc st.n) 106 st [n, m] (bif P.rl then jSq st x fun l => jP (m.beq (.con 1) && scs st.n l) 185 st [m] (Q (.ts i g.up (n.add m) sz) (st.setH (jJ st.H i ⟨e, g.up, .rl T (R.add R2) (n.add m) l⟩)) ⟨false, [i]⟩)
     else Q (.ts i g.up (n.add m) sz) (st.setH (jJ st.H i ⟨e, g.up, .r T (R.add R2) (n.add m)⟩)) ⟨false, [i]⟩))))))
   | .xs j => jP (Nat.beq sz 1) 107 st [] (match sK j st.B with
    | some (n', m') => jP (m'.sc st.n) 108 st [n, n'] (vM st n n' (jGf P m' x st fun m => ask st n (ask st m (tS st (n.add m) by_ (jP ((n.add m).sc st.n) 109 st [n, m] (fresh st fun _ st => Q (.ts i g.up (n.add m) sz) ((st.addB (.ln (Nat.pred st.n) (n.add m) m')).setH (jJ st.H i ⟨e, g.up, .xs (Nat.pred st.n)⟩)) ⟨false, [i]⟩))))))
    | none => no1 110 st)
   | .l l => jP (Nat.beq sz 1) 178 st [] (bR st LM l (vM st n (.con (.ofNat (jS l))) (jGf P LM x st fun m => ask st n (ask st (m.addc (-1)) (tS st (n.add m) by_ (jP ((n.add m).sc st.n) 179 st [n, m] (fresh st fun _ st => Q (.ts i g.up (n.add m) sz) ((st.addB (.ln (Nat.pred st.n) (n.add m) LM)).setH (jJ st.H i ⟨e, g.up, .xs (Nat.pred st.n)⟩)) ⟨false, [i]⟩)))))))
   | _ => no1 111 st)
  | none => no1 112 st)
 | _ => no1 113 st
def jTc (P : PX) (T : Nat) (v : SX) (st : Sx) (Q : SX → List Nat → Sx → An) : An := match v with
 | .sl0 => Q (.q T (.con 0) (.con 0)) [] st
 | .q T' R n => Q (.q T' R n) [] st
 | .ts i g n sz => (match hbX st.H i g with
  | some hb => (match hb.c with
   | .r T' R _ => ask st (n.neg.addc jBb) (Q (.q T' R n) [i] st)
   | .l l => jP (Nat.beq sz (jS (P.ct T)) && n.isC) 114 st [] (bV P st T n.c.toNat l fun R => ask st (n.neg.addc jBb) (jP (R.sc st.n) 115 st [R] (Q (.q T R n) [i] st)))
   | _ => no1 116 st)
  | none => no1 117 st)
 | _ => no1 118 st
def jRg (v : SX) (st : Sx) (Q : SX → List Nat → Sx → An) : An := match v with
 | .sl0 => fresh st fun _ st => Q (.qs (Nat.pred st.n)) [] (st.addB (.ln (Nat.pred st.n) (.con 0) (.con 0)))
 | .qs j => Q (.qs j) [] st
 | .ts i g n sz => (match hbX st.H i g with
  | some hb => (match hb.c with
   | .xs j => Q (.qs j) [i] st
   | _ => no1 119 st)
  | none => no1 120 st)
 | _ => no1 121 st
mutual
def jGy (P : PX) : AT → SX → Sx → (SX → List Nat → Sx → An) → An
 | .any, v, st, Q => Q v [] st
 | .q T, v, st, Q => jTc P T v st Q
 | .qs, v, st, Q => jRg v st Q
 | .agg ts, .agg l, st, Q => bJ P ts l st fun l f st => Q (.agg l) f st
 | .agg ts, .tup l, st, Q => bJ P ts l st fun l f st => Q (.tup l) f st
 | .agg _, _, st, _ => no1 122 st
def bJ (P : PX) : List AT → List SX → Sx → (List SX → List Nat → Sx → An) → An
 | [], [], st, Q => Q [] [] st
 | t :: ts, v :: l, st, Q => jGy P t v st fun v f st => bJ P ts l st fun l f' st => Q (v :: l) (f ++ f') st
 | _, _, st, _ => no1 123 st
end
def vK (H : List HX) : List Nat → List HX
 | [] => H
 | i :: r => vK (uE H i) r
mutual
def dM : SX → Nat
 | .tp i _ _ => Nat.succ i
 | .te i _ _ _ => Nat.succ i
 | .ts i _ _ _ => Nat.succ i
 | .f _ a c => mx (gY a) (gY c)
 | .agg l => gY l
 | .tup l => gY l
 | _ => 0
def gY : List SX → Nat
 | [] => 0
 | x :: l => mx (dM x) (gY l)
end
def tH : Nat → List HX → List HX
 | 0, _ => []
 | _ + 1, [] => []
 | n + 1, a :: l => a :: tH n l
def jOh (H : List HX) : List Nat → Bool
 | [] => true
 | i :: r => (match xT H i with | some hb => (match hb.c with | .l _ => false | .rl _ _ _ _ => false | _ => true) | none => true) && jOh H r
def gH : List HX → Nat
 | [] => 0
 | hb :: r => mx (match hb.c with | .l l => gY l | .rl _ _ _ l => gY l | _ => 0) (gH r)
def cnX : List AT → List SX → List SX
 | t :: ts, v :: l => (match t, v with | .q T, .sl0 => .q T (.con 0) (.con 0) | _, v => v) :: cnX ts l
 | _, l => l
def jRd (P : PX) (hb : HX) : HX := match hb.c with
 | .rl T r n _ => ⟨hb.e, hb.g, .r T r n⟩
 | .l l => (match P.bt hb.e with | some ts => ⟨hb.e, hb.g, .l (cnX ts l)⟩ | none => hb)
 | _ => hb
def jFr (P : PX) : List HX → List HX
 | [] => []
 | hb :: r => jRd P hb :: jFr P r
def jCw (H : List HX) (k : Nat) : Nat := mx k (gH (tH k H))
structure Sb where
 t : Nat → LT
 l : Nat → Nat
 g : Nat → Gn
def jIe (s : Sb) : List (Nat × Int) → LT
 | [] => ⟨0, []⟩
 | p :: r => ((s.t p.1).smul p.2).add (jIe s r)
def LT.inst (s : Sb) (t : LT) : LT := (jIe s t.l).addc t.c
def Gn.inst (s : Sb) (g : Gn) : Gn := match g.v with
 | 0 => g
 | j + 1 => ⟨(s.g j).v, Nat.add (s.g j).o g.o⟩
mutual
def SX.inst (s : Sb) : SX → SX
 | .b x => .b x
 | .bv t => .bv (t.inst s)
 | .i k t => .i k (t.inst s)
 | .s n c => .s (n.inst s) (c.inst s)
 | .p0 => .p0
 | .sl0 => .sl0
 | .tp i g o => .tp i (g.inst s) o
 | .te i g k o => .te i (g.inst s) (k.inst s) o
 | .ts i g n z => .ts i (g.inst s) (n.inst s) z
 | .q T r n => .q T (r.inst s) (n.inst s)
 | .qp T r o => .qp T (r.inst s) o
 | .qs j => .qs (s.l j)
 | .xs n c => .xs (n.inst s) (c.inst s)
 | .f fn a c => .f fn (bF s a) (bF s c)
 | .agg l => .agg (bF s l)
 | .tup l => .tup (bF s l)
 | .fis n => .fis (n.inst s)
 | .fqs => .fqs
def bF (s : Sb) : List SX → List SX
 | [] => []
 | x :: l => x.inst s :: bF s l
end
def HCX.inst (s : Sb) : HCX → HCX
 | .l m => .l (bF s m)
 | .r T R n => .r T (R.inst s) (n.inst s)
 | .xs j => .xs (s.l j)
 | .rl T R n m => .rl T (R.inst s) (n.inst s) (bF s m)
 | .dead => .dead
def kJ (s : Sb) : List HX → List HX
 | [] => []
 | h :: r => ⟨h.e, h.g.inst s, h.c.inst s⟩ :: kJ s r
def uW (s : Sb) : List LT → List LT
 | [] => []
 | t :: r => t.inst s :: uW s r
def TE.inst (s : Sb) : TE → TE
 | .by_ c t r => .by_ (c.inst s) (t.inst s) (r.inst s)
 | .el j t n c => .el (s.l j) (t.inst s) (n.inst s) (c.inst s)
 | .ln j n m => .ln (s.l j) (n.inst s) (m.inst s)
 | .ca f a r => .ca f (bF s a) (r.inst s)
 | .dv a b q => .dv (a.inst s) b (q.inst s)
def gX (s : Sb) : List TE → List TE
 | [] => []
 | t :: r => t.inst s :: gX s r
def aA (s : Sb) : EX → EX
 | [] => []
 | p :: r => (p.1, p.2.inst s) :: aA s r
structure Bv where
 t : LT
 l : Nat
 g : Gn
abbrev Bd := List (Nat × Bv)
def lkB : Bd → Nat → Option Bv
 | [], _ => none
 | p :: r, v => bif Nat.beq p.1 v then some p.2 else lkB r v
def bLT (lo hi : Nat) (p t : LT) (σ : Bd) : Bd := match p.l with
 | [q] => bif Nat.ble lo q.1 && (Nat.blt q.1 hi && eqI q.2 1) then (match lkB σ q.1 with | some _ => σ | none => (q.1, ⟨t.addc (0 - p.c), 0, g0⟩) :: σ) else σ
 | _ => σ
def bL (lo hi : Nat) (j j' : Nat) (σ : Bd) : Bd := bif Nat.ble lo j && Nat.blt j hi then (match lkB σ j with | some _ => σ | none => (j, ⟨.con 0, j', g0⟩) :: σ) else σ
def bG (lo hi : Nat) (p g : Gn) (σ : Bd) : Bd := match p.v with
 | 0 => σ
 | j + 1 => bif Nat.ble lo j && Nat.blt j hi then (match lkB σ j with | some _ => σ | none => (j, ⟨.con 0, 0, ⟨g.v, Nat.sub g.o p.o⟩⟩) :: σ) else σ
mutual
def bX (lo hi : Nat) : SX → SX → Bd → Bd
 | .bv p, .b x, σ => bLT lo hi p (.con (bif x then 1 else 0)) σ
 | .bv p, .bv t, σ => bLT lo hi p t σ
 | .i _ p, .i _ t, σ => bLT lo hi p t σ
 | .s n c, .s m d, σ => bLT lo hi c d (bLT lo hi n m σ)
 | .tp _ g _, .tp _ g' _, σ => bG lo hi g g' σ
 | .te _ g k _, .te _ g' k' _, σ => bG lo hi g g' (bLT lo hi k k' σ)
 | .ts _ g k _, .ts _ g' k' _, σ => bG lo hi g g' (bLT lo hi k k' σ)
 | .q _ r n, .q _ r' n', σ => bLT lo hi n n' (bLT lo hi r r' σ)
 | .qp _ r _, .qp _ r' _, σ => bLT lo hi r r' σ
 | .qs j, .qs j', σ => bL lo hi j j' σ
 | .xs n c, .xs m d, σ => bLT lo hi c d (bLT lo hi n m σ)
 | .f _ a c, .f _ a' c', σ => bXs lo hi c c' (bXs lo hi a a' σ)
 | .agg l, .agg m, σ => bXs lo hi l m σ
 | .tup l, .tup m, σ => bXs lo hi l m σ
 | .fis n, .fis m, σ => bLT lo hi n m σ
 | _, _, σ => σ
def bXs (lo hi : Nat) : List SX → List SX → Bd → Bd
 | [], _, σ => σ
 | _ :: _, [], σ => σ
 | x :: l, y :: m, σ => bXs lo hi l m (bX lo hi x y σ)
end
def bC (lo hi : Nat) (x y : HCX) (σ : Bd) : Bd := match x, y with
 | .l l, .l m => bXs lo hi l m σ
 | .r _ r n, .r _ r' n' => bLT lo hi n n' (bLT lo hi r r' σ)
 | .xs j, .xs j' => bL lo hi j j' σ
 | _, _ => σ
def bH (lo hi : Nat) : List HX → List HX → Bd → Bd
 | [], _, σ => σ
 | _ :: _, [], σ => σ
 | x :: l, y :: m, σ => bH lo hi l m (bG lo hi x.g y.g (bC lo hi x.c y.c σ))
def bTE (lo hi : Nat) (p t : TE) (σ : Bd) : Bd := match p, t with
 | .by_ _ _ b, .by_ _ _ b' => bLT lo hi b b' σ
 | .el _ _ n c, .el _ _ n' c' => bLT lo hi c c' (bLT lo hi n n' σ)
 | .ln _ n m, .ln _ n' m' => bLT lo hi m m' (bLT lo hi n n' σ)
 | .ca _ _ v, .ca _ _ v' => bX lo hi v v' σ
 | _, _ => σ
def jHz (lo hi : Nat) (s : Bd → Sb) (st : Sx) : List TE → Bd → (Bd → An) → An
 | [], σ, k => k σ
 | p :: r, σ, k => pop st (fun m => m.te st (p.inst (s σ))) fun c => match c with
  | 0 => jHz lo hi s st r σ k
  | c + 1 => (match xT st.B c with
   | some t => jHz lo hi s st r (bTE lo hi p t σ) k
   | none => jHz lo hi s st r σ k)
mutual
def eqv (st : Sx) : SX → SX → An → An
 | .b x, .b y, k => jP (bif x then y else !y) 220 st [] k
 | .bv s, .bv t, k => vM st s t k
 | .bv s, .b y, k => (match s.l with | [] => jP (bif y then geZ (s.c - 1) else geZ (0 - s.c)) 221 st [] k | _ :: _ => no1 222 st)
 | .i d s, .i d' t, k => jP (eqK d d') 223 st [] (vM st s t k)
 | .s n c, .s m d, k => vM st n m (vM st c d k)
 | .p0, .p0, k => k
 | .sl0, .sl0, k => k
 | .tp i g o, .tp i' g' o', k => jP (Nat.beq i i' && (g.beq g' && Nat.beq o o')) 224 st [] k
 | .te i g j o, .te i' g' j' o', k => jP (Nat.beq i i' && (g.beq g' && Nat.beq o o')) 225 st [] (vM st j j' k)
 | .ts i g j o, .ts i' g' j' o', k => jP (Nat.beq i i' && (g.beq g' && Nat.beq o o')) 226 st [] (vM st j j' k)
 | .q T r n, .q T' r' n', k => jP (Nat.beq T T') 227 st [] (vM st r r' (vM st n n' k))
 | .qp T r o, .qp T' r' o', k => jP (Nat.beq T T' && Nat.beq o o') 228 st [] (vM st r r' k)
 | .qs j, .qs j', k => jP (Nat.beq j j') 229 st [] k
 | .xs n c, .xs m d, k => vM st n m (vM st c d k)
 | .f g a c, .f g' a' c', k => jP (Nat.beq g g') 230 st [] (jAy st a a' (jAy st c c' k))
 | .agg l, .agg m, k => jAy st l m k
 | .tup l, .tup m, k => jAy st l m k
 | .fis n, .fis m, k => vM st n m k
 | .fqs, .fqs, k => k
 | _, _, _ => no1 231 st
def jAy (st : Sx) : List SX → List SX → An → An
 | [], [], k => k
 | x :: l, y :: m, k => eqv st x y (jAy st l m k)
 | _, _, _ => no1 232 st
end
def eqC (st : Sx) : HCX → HCX → An → An
 | .l l, .l m, k => jAy st l m k
 | .r T r n, .r T' r' n', k => jP (Nat.beq T T') 233 st [] (vM st r r' (vM st n n' k))
 | .xs j, .xs j', k => jP (Nat.beq j j') 234 st [] k
 | .dead, .dead, k => k
 | _, _, _ => no1 235 st
def eqH (st : Sx) : List HX → List HX → An → An
 | [], [], k => k
 | x :: l, y :: m, k => jP (Nat.beq x.e y.e && x.g.beq y.g) 236 st [] (eqC st x.c y.c (eqH st l m k))
 | _, _, _ => no1 237 st
def jPo (st : Sx) : List LT → An → An
 | [], k => k
 | d :: r, k => match d.l with
  | [] => jP (!isZ d.c) 238 st [d] (jPo st r k)
  | _ :: _ => bif inN d st.N then jPo st r k else sel st [ask st (d.addc (-1)) done, ask st (d.neg.addc (-1)) done] fun _ => jPo st r k
def jKy (st : Sx) (p t : TE) : An := match p, t with
 | .by_ c i b, .by_ c' i' b' => jP (c.beq c') 239 st [] (vM st i i' (vM st b b' done))
 | .el j i n c, .el j' i' n' c' => jP (Nat.beq j j') 240 st [] (vM st i i' (vM st n n' (vM st c c' done)))
 | .ln j n m, .ln j' n' m' => jP (Nat.beq j j') 241 st [] (vM st n n' (ask st (m.sub m') done))
 | .ca f a v, .ca f' a' v' => jP (Nat.beq f f') 242 st [] (jAy st a a' (eqv st v v' done))
 | _, _ => no1 243 st
def tA (st : Sx) (p : TE) : List TE → List An
 | [] => []
 | t :: r => jKy st p t :: tA st p r
def hasB (st : Sx) : List TE → An → An
 | [], k => k
 | p :: r, k => sel st (tA st p st.B) fun _ => hasB st r k
def hY (st : Sx) (F N : List LT) (B : List TE) (k : An) : An := jJi st F (jPo st N (hasB st B k))
def jNq : List LT → Sx → (Sx → An) → An
 | [], st, k => k st
 | t :: r, st, k => zT st t fun st => jNq r st k
def jMv : List LT → Sx → (Sx → An) → An
 | [], st, k => k st
 | t :: r, st, k => jXj st t fun st => jMv r st k
def jQk (st : Sx) : List TE → Sx
 | [] => st
 | t :: r => (jQk st r).addB t
def sO (f : Nat) (l : List SX) : List TE → Option SX
 | [] => none
 | t :: r => match t with
  | .ca g a v => bif Nat.beq g f && jAu a l then some v else sO f l r
  | _ => sO f l r
def jEq (v w : SX) (st : Sx) (k : Sx → An) : An := match v, w with
 | .i _ a, .i _ b => zT st (a.sub b) fun st => zT st (b.sub a) k
 | .b x, .b y => bif (bif x then y else !y) then k st else done
 | .bv a, .bv b => k st
 | .bv a, .b y => bif y then zT st (a.addc (-1)) k else zT st a.neg k
 | .b y, .bv a => bif y then zT st (a.addc (-1)) k else zT st a.neg k
 | _, _ => k st
def jEw : List SX → List SX → Sx → (Sx → An) → An
 | [], _, st, k => k st
 | _ :: _, [], st, k => k st
 | x :: l, y :: m, st, k => jEq x y st fun st => jEw l m st k
def jQq (v w : SX) (st : Sx) (k : Sx → An) : An := match v, w with
 | .tup l, .tup m => jEw l m st k
 | v, w => jEq v w st k
def jVu (t : TE) (st : Sx) (k : Sx → An) : An := match t with
 | .by_ c i r => (match nU c i st.B with
  | some r' => zT st (r.sub r') fun st => zT st (r'.sub r) k
  | none => k (st.addB t))
 | .ca f a v => (match sO f a st.B with
  | some v' => jQq v' v st k
  | none => k (st.addB t))
 | t => k (st.addB t)
def jLq : List TE → Sx → (Sx → An) → An
 | [], st, k => k st
 | t :: r, st, k => jP (t.sc st.n) 124 st [] (jVu t st fun st => jLq r st k)
def jJx (F N : List LT) (B : List TE) (st : Sx) (k : Sx → An) : An := jLq B st fun st => jNq F st fun st => jMv N st k
def jYu (np n0 : Nat) (s : Sb) : Sb := ⟨fun v => bif Nat.blt v np then s.t v else .var (Nat.add n0 (Nat.sub v np)), fun v => bif Nat.blt v np then s.l v else Nat.add n0 (Nat.sub v np), fun v => bif Nat.blt v np then s.g v else ⟨Nat.succ (Nat.add n0 (Nat.sub v np)), 0⟩⟩
def resolve (np : Nat) (s : Sb) (B : List TE) : List TE → List (Nat × LT)
 | [] => []
 | t :: r => match t with
  | .by_ c i b => (match b.l with
   | [q] => bif Nat.ble np q.1 && (eqI q.2 1 && isZ b.c) then (match nU (c.inst s) (i.inst s) B with | some x => (q.1, x) :: resolve np s B r | none => resolve np s B r) else resolve np s B r
   | _ => resolve np s B r)
  | _ => resolve np s B r
def lkT : List (Nat × LT) → Nat → LT → LT
 | [], _, d => d
 | p :: r, v, d => bif Nat.beq p.1 v then p.2 else lkT r v d
def qDg (rs : List (Nat × LT)) (s : Sb) : Sb := ⟨fun v => lkT rs v (s.t v), s.l, s.g⟩
def jMw (np : Nat) (s : Sb) (st : Sx) (p : gE) (k : SX → List HX → Sx → An) : An :=
 jZ (Nat.add st.n p.k) fun m => match qDg (resolve np (jYu np st.n s) st.B p.B) (jYu np st.n s) with
 | s' => jJx (uW s' p.F) (uW s' p.N) (gX s' p.B) (st.up m) fun st => k (p.r.inst s') (kJ s' p.H) st
def jKd (np : Nat) (s : Sb) (st : Sx) : List gE → (SX → List HX → Sx → An) → An
 | [], _ => done
 | p :: r, k => tO (jMw np s st p k) (jKd np s st r k)
def bvT (b : Option Bv) : LT := match b with | some b => b.t | none => .con 0
def bvL (b : Option Bv) : Nat := match b with | some b => b.l | none => 0
def bvG (b : Option Bv) : Gn := match b with | some b => b.g | none => g0
def qDb (σ : Bd) : Sb := ⟨fun v => bvT (lkB σ v), fun v => bvL (lkB σ v), fun v => bvG (lkB σ v)⟩
def jCx (s : Sb) (n : Nat) : Nat → Bool
 | 0 => true
 | v + 1 => (s.t v).sc n && (Nat.blt (s.l v) n && ((s.g v).sc n && jCx s n v))
def qCw (ct : CtX) (l : List SX) (H : List HX) (st : Sx) (k : Sb → An) : An := jHz 0 ct.np qDb st ct.B (bH 0 ct.np ct.H H (bXs 0 ct.np ct.args l [])) fun σ => k (qDb σ)
def jUd (cur : LT) (f : Nat) (l : List SX) (H : List HX) (st : Sx) (k : CtX → Sb → An) (ct : CtX) : An :=
 qCw ct l H st fun s => jP (jCx s st.n ct.np) 253 st [] (jAy st (bF s ct.args) l (eqH st (kJ s ct.H) H (ask st ((cur.addc (-1)).sub (ct.dep.inst s)) (hY st (uW s ct.F) (uW s ct.N) (gX s ct.B) (k ct s)))))
def jTt (cur : LT) (f : Nat) (l : List SX) (H : List HX) (st : Sx) : List CtX → List An
 | [] => []
 | ct :: r => jUd cur f l H st (fun _ _ => done) ct :: jTt cur f l H st r
def jWk (cur : LT) (f : Nat) (l : List SX) (H : List HX) (st : Sx) (k : CtX → Sb → An) (cts : List CtX) : An := match cts with
 | [ct] => jUd cur f l H st k ct
 | cts => sel ((st.setE [(0, .i .i64 (.con (.ofNat f))), (1, .tup l)]).setH H) (jTt cur f l H st cts) fun i => match xT cts i with
  | some ct => jUd cur f l H st k ct
  | none => no1 247 st
def xCt (P : PX) (cur : LT) (f : Nat) (l : List SX) (H : List HX) (st : Sx) (k : SX → List HX → Sx → An) : An := jWk cur f l H st (fun ct s => jKd ct.np s st ct.posts k) (P.cs f)
def jGz (P : PX) (cur : LT) (f : Nat) (l : List SX) (fr : List Nat) (st : Sx) (Q : KO) : Nat → An
 | 0 => xCt P cur f l [] st fun v _ st => bif hZ v && jOh st.H fr then Q v st ⟨true, fr⟩ else Q v (st.setH (vK st.H fr)) ⟨true, fr⟩
 | k + 1 => jP (Nat.ble (gY l) (k + 1) && (Nat.ble (gH (tH (k + 1) (vK st.H fr))) (k + 1) && Nat.ble (k + 1) (jS st.H))) 129 st [] (xCt P cur f l (tH (k + 1) (vK st.H fr)) st fun v H' st => jP (scH st.n H') 130 st [] (Q v (st.setH (H' ++ zM (k + 1) (vK st.H fr))) ⟨true, jJv (k + 1) ++ fr⟩))
def mxS (a : Int) : List SX → LT
 | [] => .con a
 | .s n _ :: r => bif n.isC then mxS (bif geZ (n.c - a) then n.c else a) r else LM
 | _ :: _ => LM
def jDv (j k : Nat) : List SX → List TE
 | .s n c :: r => .el j (.con (.ofNat k)) n c :: jDv j (Nat.succ k) r
 | _ => []
def jUp (st : Sx) (l : List SX) (n : LT) (Q : Nat → Sx → An) : An := jP (scs st.n l && (mxS 0 l).sc st.n) 262 st [] (bR st (mxS 0 l) l (vM st n (.con (.ofNat (jS l))) (fresh st fun _ st => Q (Nat.pred st.n) (jQk st (jDv (Nat.pred st.n) 0 l ++ [.ln (Nat.pred st.n) (.con (.ofNat (jS l))) (mxS 0 l)])))))
def jYl (v : SX) (st : Sx) (Q : SX → Sx → An) : An := match v with
 | .ts i g n sz => (match xT st.H i with
  | some hb => (match hb.c with
   | .l l => jP (hb.g.beq g && Nat.beq sz 1) 264 st [] (jUp st l n fun j st => Q (.ts i g.up n 1) (st.setH (jJ st.H i ⟨hb.e, g.up, .xs j⟩)))
   | _ => Q v st)
  | none => Q v st)
 | _ => Q v st
def jIv : List AT → List SX → Sx → (List SX → Sx → An) → An
 | t :: ts, v :: l, st, Q => bif qCv t then jYl v st fun v st => jIv ts l st fun l st => Q (v :: l) st else jIv ts l st fun l st => Q (v :: l) st
 | _, l, st, Q => Q l st
def xCf (P : PX) (cur : LT) (f : Nat) (l : List SX) (st : Sx) (Q : KO) : An := match st.setH (jFr P st.H) with
 | st =>   jIv (P.sg f).1 l st fun l st => bJ P (P.sg f).1 l st fun l fr st => jGz P cur f l fr st Q (jCw st.H (jCw st.H (gY l)))
def dW : List gE → Bool
 | [] => true
 | p :: r => hZ p.r && dW r
def xCp (P : PX) (cur : LT) (f : Nat) (l : List SX) (st : Sx) (Q : KO) : An := jP (tR l && scs st.n l) 131 st [] (bif P.rf then xCt P cur f l [] st fun v _ st => jP (hZ v && v.sc st.n) 132 st [] (jVu (.ca f l v) st fun st => Q v st t0) else match sO f l st.B with
 | some v => jWk cur f l [] st (fun ct _ => jP (dW ct.posts) 132 st [] (Q v st t0)) (P.cs f)
 | none => xCt P cur f l [] st fun v _ st => jP (hZ v && v.sc st.n) 132 st [] (Q v (st.addB (.ca f l v)) t0))
mutual
def jGh : SX → Bool
 | .b _ => true
 | .bv _ => true
 | .i _ _ => true
 | .s _ _ => true
 | .p0 => true
 | .sl0 => true
 | .agg l => iZ l
 | .tup l => iZ l
 | _ => false
def iZ : List SX → Bool
 | [] => true
 | x :: l => jGh x && iZ l
end
def xCq (P : PX) (cur : LT) (f : Nat) (l : List SX) (st : Sx) (Q : KO) : An :=
 jP (tR l) 133 st [] (xCt P cur f l [] st fun v _ st => jP (jGh v) 134 st [] (Q v st t0))
def jEs (st : Sx) : List SX → An → An
 | [], k => k
 | .i .u8 t :: l, k => ask st t (ask st (t.neg.addc 255) (jEs st l k))
 | _ :: _, _ => no1 248 st
def xBt (x : SX) (st : Sx) (Q : K1) : An := match x with
 | .ts i g n sz => jP (Nat.beq sz 1) 135 st [] (match hbX st.H i g with
  | some hb => (match hb.c with
   | .l l => jEs st l (fresh st fun w st => Q (.s n w) st)
   | _ => no1 137 st)
  | none => no1 138 st)
 | _ => no1 139 st
def xCv (P : PX) (cur : LT) (x : SX) (l : List SX) (st : Sx) (Q : KO) : An := match x with
 | .f fn a c => xCf P cur fn (a ++ l ++ c) st Q
 | _ => no1 140 st
def jPu (Q : KO) : KO := fun v st t => match v with
 | .ts i g n sz => (match hbX st.H i g with
  | some hb => (match hb.c with
   | .r T R _ => ask st (n.neg.addc jBb) (jP (R.sc st.n && n.sc st.n) 194 st [] (Q (.q T R n) (st.setH (uE st.H i)) ⟨true, i :: t.l⟩))
   | .xs j => jP (Nat.blt j st.n) 195 st [] (Q (.qs j) (st.setH (uE st.H i)) ⟨true, i :: t.l⟩)
   | .l l => jP (Nat.beq sz 1) 263 st [] (jUp st l n fun j st => Q (.qs j) (st.setH (uE (jJ st.H i ⟨hb.e, g.up, .xs j⟩) i)) ⟨true, i :: t.l⟩)
   | _ => no1 196 st)
  | none => no1 197 st)
 | _ => no1 198 st
def rvX (P : PX) (i : Nat) (st : Sx) (Q : KO) : An := match xT st.H i with
 | some hb => (match hb.c, P.ak hb.e with
  | .dead, some (.ty T r) => Q (.ts i hb.g.up (.con 0) (jS (P.ct T))) (st.setH (jJ st.H i ⟨hb.e, hb.g.up, .r T (.con (.ofNat r)) (.con 0)⟩)) ⟨false, [i]⟩
  | .dead, some .str => fresh st fun _ st => Q (.ts i hb.g.up (.con 0) 1) ((st.addB (.ln (Nat.pred st.n) (.con 0) (.con 1000000000))).setH (jJ st.H i ⟨hb.e, hb.g.up, .xs (Nat.pred st.n)⟩)) ⟨false, [i]⟩
  | _, _ => no1 260 st)
 | none => no1 261 st
def qAy (H : List HX) (i : Nat) : Bool := match xT H i with
 | some hb => (match hb.c with | .dead => true | _ => false)
 | none => false
def xMv (P : PX) (v : SX) (st : Sx) (Q : KO) : An := match P.fz, v, P.rv with
 | true, _, _ => jPu Q v st t0
 | false, .sl0, i + 1 => bif qAy st.H i then rvX P i st Q else Q v st t0
 | _, _, _ => Q v st t0
def xO (P : PX) (cur : LT) (c : Ev.C) (st : Sx) (Q : KO) : An := match c with
 | .mv x => xv st x fun v => xMv P v st Q
 | .id1 x => xv st x fun v => Q v st t0
 | .pick c a b => xv st c fun c => xv st a fun a => xv st b fun b => xU c a b st fun v st => Q v st t0
 | .bi o x y => xv st x fun x => xv st y fun y => xBi o x y st fun v st => Q v st t0
 | .un o x => xv st x fun x => xUn o x st fun v st => Q v st t0
 | .ci k x => xv st x fun x => xCi k x st fun v st => Q v st t0
 | .ix x i => xv st x fun x => xv st i fun i => xIx x i st fun v st => Q v st t0
 | .ss x lo hi => xv st x fun x => xSs x lo hi st fun v st => Q v st t0
 | .ln x => xv st x fun x => xLn x st fun v st => Q v st t0
 | .lm x => xv st x fun x => xLm x st fun v st => Q v st t0
 | .mx x y => xv st x fun x => xv st y fun y => xMx x y st fun v st => Q v st t0
 | .mn x y => xv st x fun x => xv st y fun y => xMn x y st fun v st => Q v st t0
 | .ex n x => xv st x fun x => xEx n x st fun v st => Q v st t0
 | .al e z => jP (kF z && jT z) 141 st [] (jKg st e (.l (sR z)) fun i st t => Q (.tp i g0 0) st t)
 | .bx e x => xv st x fun v => jP (kT (uZ v)) 142 st [] (jKg st e (.l (uZ v)) fun i st t => Q (.tp i g0 0) st t)
 | .bd z ps => jP (kF z) 143 st [] (jCg st ps (sR z) fun l => Q (.agg l) st t0)
 | .bs e sz z len ps => jP (kF z && (jT z && (zI (Nat.mul len sz) z && Nat.blt 0 len))) 144 st [] (jCg st ps (sR z) fun l => jKg st e (.l l) fun i st t => bif P.fz then jPu Q (.ts i g0 (.con (.ofNat len)) sz) st t else Q (.ts i g0 (.con (.ofNat len)) sz) st t)
 | .ld n a => xv st a fun a => xLd P n a st fun v st => Q v st t0
 | .st n a x => xv st a fun a => xv st x fun x => xSt P n a x st fun st t => Q tT st t
 | .nc x => xv st x fun x => xNc x st fun v st => Q v st t0
 | .fa off x => xv st x fun x => xFa off x st fun v st => Q v st t0
 | .ia sz x i => xv st x fun x => xv st i fun i => xIa P sz x i st fun v st => Q v st t0
 | .sl sz x lo hi => xv st x fun x => xSl P sz x lo hi st Q
 | .ap e sz by_ s x => xv st s fun s => xv st x fun x => xAp P e sz by_ s x st (bif P.fz then jPu Q else Q)
 | .mf f a c => xvs st a fun a => xvs st c fun c => Q (.f f a c) st t0
 | .cf f xs => xvs st xs fun l => xCf P cur f l st Q
 | .cp f xs => xvs st xs fun l => xCp P cur f l st Q
 | .cv x xs => xv st x fun x => xvs st xs fun l => xCv P cur x l st Q
 | .cq f xs => xvs st xs fun l => xCq P cur f l st Q
 | .bt x => xv st x fun x => xBt x st fun v st => Q v st t0
 | .be g x y => xv st x fun x => xv st y fun y => xBe g x y st fun v st => Q v st t0
 | _ => no1 145 st
def jBg (E : EX) (v : Nat) : LT := bif Nat.blt v 300000 then (match yN E (Nat.sub v 200000) with | some (.i _ t) => t | some (.bv t) => t | some (.b x) => .con (bif x then 1 else 0) | _ => .con 0)
 else bif Nat.blt v 400000 then (match yN E (Nat.sub v 300000) with | some (.s n _) => n | some (.ts _ _ n _) => n | some (.q _ _ n) => n | _ => .con 0)
 else bif Nat.blt v 500000 then (match yN E (Nat.sub v 400000) with | some (.s _ c) => c | _ => .con 0)
 else bif Nat.blt v 1000000 then (match yN E (Nat.sub v 600000) with | some (.q _ r _) => r | _ => .con 0)
 else .con (.ofNat (Nat.sub v 1000000))
def jCm (E : EX) (v : Nat) : Nat := match yN E (Nat.sub v 500000) with | some (.qs j) => j | _ => 0
def jCd (E : EX) (v : Nat) : Gn := match yN E (Nat.sub v 700000) with | some (.tp _ g _) => g | some (.te _ g _ _) => g | some (.ts _ g _ _) => g | _ => g0
def mM (n0 : Nat) (E : EX) (σ : Bd) : Sb := ⟨fun v => bif Nat.blt v n0 then .var v else bif Nat.blt v 100000 then .con 0 else bif Nat.blt v 200000 then bvT (lkB σ v) else jBg E v,
 fun v => bif Nat.blt v n0 then v else bif Nat.blt v 100000 then 0 else bif Nat.blt v 200000 then bvL (lkB σ v) else jCm E v,
 fun v => bif Nat.blt v n0 then ⟨Nat.succ v, 0⟩ else bif Nat.blt v 100000 then g0 else bif Nat.blt v 200000 then bvG (lkB σ v) else jCd E v⟩
def tZ : List LT → Sx → (Sx → An) → An
 | [], st, k => k st
 | t :: r, st, k => xge st (t.inst (mM st.n st.E [])) fun _ st => tZ r st k
def jJt (st : Sx) (k : Sx → An) : Nat → An
 | 0 => k st
 | n + 1 => pop st (fun m => m.mg st) fun c => match c with
  | 0 => k st
  | c + 1 => (match xT st.B (Nat.mod c 1024), xT st.B (Nat.div c 1024) with
   | some (.by_ c i b), some (.by_ c' i' b') => jP (c.beq c') 244 st [] (vM st i i' (zT st (b.sub b') fun st => zT st (b'.sub b) fun st => k st))
   | _, _ => no1 245 st)
def jTb (st : Sx) (k : Sx → An) : An := pop st (fun m => m.dn st) fun c => match c with
 | 0 => k st
 | c + 1 => (match xT st.N c with
  | some d => ask st d (ask st d.neg done)
  | none => no1 246 st)
def qCk (h : Option (List LT)) (st : Sx) (k : Sx → An) : An := match h with
 | none => k st
 | some l => tZ l st fun st => jJt st (fun st => jTb st k) 1
def jUt (hs : Nat → Option (List LT)) (d : Option Nat) (st : Sx) (k : Sx → An) : An := match d with
 | some d => qCk (hs d) st k
 | none => k st
def jGe (st : Sx) (d : Option Nat) (v : SX) (k : Sx → An) : An := match d with
 | some d => jP (v.sc st.n) 146 st [] (k (st.setE ((d, v) :: st.E)))
 | none => k st
def xG (st : Sx) (g : Option (Nat × Bool)) (p q : Sx → An) : An := match g with
 | none => p st
 | some (t, w) => (match yN st.E t with
  | some v => (match v with
   | .b x => bif (bif x then w else !w) then p st else q st
   | .bv t => xge st (t.addc (-1)) fun r st => bif (bif r then w else !w) then p st else q st
   | .tup [] => q st
   | _ => no1 147 st)
  | none => no1 148 st)
def jRf {α : Type} : Nat → List α → List α
 | 0, l => l
 | _ + 1, [] => []
 | n + 1, _ :: l => jRf n l
def PX.drop (P : PX) (k : Nat) : PX := match k with
 | 0 => P
 | k + 1 => ⟨P.ct, P.cp, P.ak, P.bt, P.sg, fun f => jRf (Nat.mod (Nat.succ k) 100) (P.cs f), Nat.ble 100 k && Nat.blt k 200, Nat.ble 200 k && Nat.blt k 300, bif Nat.blt k 399 then Nat.sub (Nat.succ k) 300 else 0, Nat.ble 399 k⟩
def kdO (kd : Nat → Nat) (d : Option Nat) : Nat := match d with
 | some d => kd d
 | none => 0
def xR (P : PX) (cur : LT) (hs : Nat → Option (List LT)) (kd : Nat → Nat) : List O → Sx → (Sx → An) → An
 | [], st, Q => Q st
 | o :: r, st, Q => xG st o.g (fun st => xO (P.drop (kdO kd o.d)) cur o.c st fun v st _ => jGe st o.d v fun st => jUt hs o.d st fun st => xR P cur hs kd r st Q) (fun st => jGe st o.d tT fun st => xR P cur hs kd r st Q)
def jTx (H : List HX) (s : SX) : Option Key := match s with
 | .tp i g _ => (match hbX H i g with | some hb => (match hb.c with | .l _ => some (.h i) | _ => none) | none => none)
 | .te i g _ _ => (match hbX H i g with | some hb => (match hb.c with | .r _ _ _ => some (.h i) | _ => none) | none => none)
 | .qp _ _ _ => some .a
 | .xs _ _ => some .c
 | .fqs => some .c
 | _ => none
def jUk (st : Sx) (H : List HX) (o : O) (ws : List Tch) (k : Nat) (rs : List Wr) (Q : List Wr → An) : An := match o.rd with
 | none => Q rs
 | some (lo, hi) => match o.c with
  | .ld n a => xv st a fun a => (match jTx H a with | some κ => jP (lB κ lo ws k) 149 st [] (Q (⟨κ, hi⟩ :: rs)) | none => no1 150 st)
  | _ => no1 151 st
def xD (P : PX) (cur : LT) (kd : Nat → Nat) : List O → Sx → List Tch → Nat → List Wr → (Sx → An) → An
  | [], st, _, _, _, Q => Q st
  | o :: r, st, ws, k, rs, Q => xG st o.g
      (fun st => bif o.c.acts then xO (P.drop (kdO kd o.d)) cur o.c st fun v st t => jP (pR t k rs) 152 st [] (jGe st o.d v fun st => xD P cur kd r st (t :: ws) (Nat.succ k) rs Q)
        else xO (P.drop (kdO kd o.d)) cur o.c st fun v st' t => jP (noT t) 153 st' [] (jUk st' st.H o ws k rs fun rs => jGe st' o.d v fun st => xD P cur kd r st ws k rs Q))
      (fun st => bif o.c.acts then jGe st o.d tT fun st => xD P cur kd r st (t0 :: ws) (Nat.succ k) rs Q else jGe st o.d tT fun st => xD P cur kd r st ws k rs Q)
abbrev KK := E → Sx → An
def jTm (id : Nat) (Q : KK) (e : E) (st : Sx) : An := match e with
 | .nrm => Q .nrm st
 | .exit k => bif Nat.beq k id then Q .nrm st else Q (.exit k) st
 | .ret => Q .ret st
def jSe (K : Sx → An) (Q : KK) (e : E) (st : Sx) : An := match e with
 | .nrm => K st
 | .exit k => Q (.exit k) st
 | .ret => Q .ret st
def oL (E : EX) : List Nat → EX
 | [] => []
 | n :: r => match yN E n with
  | some v => (n, v) :: oL E r
  | none => oL E r
def jEr : SX → Bool
 | .sl0 => true
 | _ => false
def jFd (P : PX) (sz : Nat) : HCX → Bool
 | .r T _ n => (match n.l with | [] => isZ n.c | _ :: _ => false) && Nat.beq sz (jS (P.ct T))
 | .xs _ => Nat.beq sz 1
 | _ => false
def Sx.lnZ (st : Sx) : HCX → Bool
 | .xs j => (match sK j st.B with | some (n, _) => (match n.l with | [] => isZ n.c | _ :: _ => false) | none => false)
 | _ => true
def jWh (s : Sb) (c : HCX) (st : Sx) (Q : HCX → Sx → An) : An := match c with
 | .xs m => fresh st fun _ st => jP ((s.t m).sc st.n) 177 st [] (Q (.xs (Nat.pred st.n)) (st.addB (.ln (Nat.pred st.n) (.con 0) (s.t m))))
 | c => Q (c.inst s) st
def jBa (P : PX) (s : Sb) : List (CvX × Nat) → Sx → (Sx → An) → An
 | [], st, Q => Q st
 | (.lit n m, sz) :: r, st, Q => (match yN st.E n with
  | some (.ts i g k z) => (match hbX st.H i g with
   | some hb => (match hb.c with
    | .l l => jP (Nat.beq z 1 && (s.t m).sc st.n) 180 st [s.t m] (bR st (s.t m) l (vM st k (.con (.ofNat (jS l))) (fresh st fun _ st => jBa P s r (((st.addB (.ln (Nat.pred st.n) (.con (.ofNat (jS l))) (s.t m))).setE ((n, .ts i g.up k z) :: st.E)).setH (jJ st.H i ⟨hb.e, g.up, .xs (Nat.pred st.n)⟩)) Q)))
    | _ => no1 181 st)
   | none => no1 182 st)
  | _ => no1 183 st)
 | (.frz n, sz) :: r, st, Q => (match yN st.E n with
  | some (.ts i g k z) => (match hbX st.H i g with
   | some hb => (match hb.c with
    | .xs j => jP (Nat.blt j st.n) 184 st [] (jBa P s r ((st.setE ((n, .qs j) :: st.E)).setH (uE st.H i)) Q)
    | _ => no1 185 st)
   | none => no1 186 st)
  | _ => no1 187 st)
 | (.slot i e c, sz) :: r, st, Q => jWh s c st fun c st => jP (jFd P sz c && (c.sc st.n && st.lnZ c)) 157 st [] (match yN st.E i with
   | some v => jP (jEr v) 158 st [] (jBa P s r ((st.setE ((i, .ts (jS st.H) g0 (.con 0) sz) :: st.E)).setH (st.H ++ [⟨e, g0, c⟩])) Q)
   | none => no1 159 st)
 | (.cell i off e c, sz) :: r, st, Q => jWh s c st fun c st => jP (jFd P sz c && (c.sc st.n && st.lnZ c)) 157 st [] (match xT st.H i with
   | some hb => (match hb.c with
    | .l l => (match xT l off with
     | some v => jP (jEr v) 160 st [] (jBa P s r (st.setH (jJ st.H i ⟨hb.e, hb.g, .l (jJ l off (.ts (jS st.H) g0 (.con 0) sz))⟩ ++ [⟨e, g0, c⟩])) Q)
     | none => no1 161 st)
    | _ => no1 162 st)
   | none => no1 163 st)
def jTg (st : Sx) : EX → EX → An → An
 | [], _, k => k
 | p :: r, E, k => (match yN E p.1 with | some v => eqv st p.2 v (jTg st r E k) | none => no1 249 st)
def bE (lo hi : Nat) : EX → EX → Bd → Bd
 | [], _, σ => σ
 | p :: r, E, σ => bE lo hi r E (match yN E p.1 with | some v => bX lo hi p.2 v σ | none => σ)
def jTr (st : Sx) : List HX → List HX → An → An
 | [], _, k => k
 | x :: l, y :: m, k => jP (Nat.beq x.e y.e && x.g.beq y.g) 250 st [] (eqC st x.c y.c (jTr st l m k))
 | _ :: _, [], _ => no1 251 st
def jRx : List (Option HX) → List HX → List HX
 | [], _ => []
 | some h :: l, [] => h :: jRx l []
 | some h :: l, _ :: m => h :: jRx l m
 | none :: l, [] => jRx l []
 | none :: l, h :: m => h :: jRx l m
def uA (H0 : List HX) (a : Alt) : List HX := match a.H with
 | some H => jRx H H0
 | none => H0
def qAn (n0 : Nat) (E0 : EX) (H0 : List HX) (a : Alt) (st : Sx) (k : Sb → An) : An := jHz 100000 200000 (mM n0 E0) st a.B (bH 100000 200000 (uA H0 a) st.H (bE 100000 200000 a.E st.E [])) fun σ => k (mM n0 E0 σ)
def jMu (E0 : EX) (H0 : List HX) (a : Alt) (st : Sx) (s : Sb) (pre : Bool) (k : An) : An := jTg st (aA s a.E) st.E ((bif pre then jTr st (kJ s (uA H0 a)) st.H else eqH st (kJ s (uA H0 a)) st.H) (hY st (uW s a.F) (uW s a.N) (gX s a.B) k))
def jGs : EX → Nat
 | [] => 0
 | p :: r => mx (dM p.2) (jGs r)
def lV (n0 : Nat) (E0 : EX) (H0 : List HX) (Ek : EX) (m0 : LT) (h0 : Nat) (st : Sx) (a : Alt) : An := qAn n0 E0 H0 a st fun s => jMu E0 H0 a st s true (jTg st Ek st.E (match kJ s (uA H0 a) with
 | G => jP (Nat.ble h0 (jS G) && (Nat.ble (jGs (a.E ++ Ek)) (jS G) && Nat.ble (gH G) (jS G))) 252 st [] (ask st ((m0.sub (a.m.inst s)).addc (-1)) (ask st (m0.addc (-1)) done))))
def tF (n0 : Nat) (E0 : EX) (H0 : List HX) (Ek : EX) (m0 : LT) (h0 : Nat) (st : Sx) : List Alt → List An
 | [] => []
 | a :: r => lV n0 E0 H0 Ek m0 h0 st a :: tF n0 E0 H0 Ek m0 h0 st r
def jEy (n0 : Nat) (E0 : EX) (H0 : List HX) (L : Nat) (st : Sx) (a : Alt) : An := qAn n0 E0 H0 a st fun s => jMu E0 H0 a st s false (ask st ((a.m.inst s).neg.addc (Int.ofNat L - 1)) done)
def mV (n0 : Nat) (E0 : EX) (H0 : List HX) (L : Nat) (st : Sx) : List Alt → List An
 | [] => []
 | a :: r => jEy n0 E0 H0 L st a :: mV n0 E0 H0 L st r
def pY (n0 : Nat) (E0 : EX) (H0 : List HX) (L : Nat) (st : Sx) (l : List Alt) : An := match l with
 | [a] => jEy n0 E0 H0 L st a
 | l => sel st (mV n0 E0 H0 L st l) fun _ => done
def jZo (n0 : Nat) (E0 : EX) (H0 : List HX) (Ek : EX) (se : List LT) (alts : List Alt) (m0 : LT) (h0 : Nat) (Q : KK) (e : E) (st : Sx) : An := match e with
 | .nrm => tZ se st fun st => (match alts with
  | [a] => lV n0 E0 H0 Ek m0 h0 st a
  | alts => sel st (tF n0 E0 H0 Ek m0 h0 st alts) fun _ => done)
 | .exit i => Q (.exit i) st
 | .ret => Q .ret st
def own (n0 v : Nat) : Nat := match n0 with
 | 0 => Nat.sub v 100000
 | k + 1 => Nat.add (Nat.succ k) (Nat.sub v 100000)
def qX (n0 : Nat) (E0 : EX) : Sb := ⟨fun v => bif Nat.blt v n0 then .var v else bif Nat.blt v 100000 then .con 0 else bif Nat.blt v 200000 then .var (own n0 v) else jBg E0 v,
 fun v => bif Nat.blt v n0 then v else bif Nat.blt v 100000 then 0 else bif Nat.blt v 200000 then own n0 v else jCm E0 v,
 fun v => bif Nat.blt v n0 then ⟨Nat.succ v, 0⟩ else bif Nat.blt v 100000 then g0 else bif Nat.blt v 200000 then ⟨Nat.succ (own n0 v), 0⟩ else jCd E0 v⟩
def jUj (E0 : EX) (H0 : List HX) (Ek : EX) (se : List LT) (alts : List Alt) (body : Sx → KK → An) (st : Sx) (Q : KK) (a : Alt) : An :=
 jZ (Nat.add st.n a.k) fun m => match qX st.n E0 with
  | s => jP (scE m (aA s a.E) && (scH m (kJ s (uA H0 a)) && (scE st.n Ek && (a.m.inst s).sc m))) 165 st [] (jJx (uW s a.F) (uW s a.N) (gX s a.B) ((((st.up m).setE (aA s a.E ++ Ek))).setH (kJ s (uA H0 a))) fun st1 => body st1 (jZo st.n E0 H0 Ek se alts (a.m.inst s) (jS (uA H0 a)) Q))
def iO (E0 : EX) (H0 : List HX) (Ek : EX) (se : List LT) (alts : List Alt) (body : Sx → KK → An) (st : Sx) (Q : KK) : List Alt → An
 | [] => done
 | a :: r => tO (jUj E0 H0 Ek se alts body st Q a) (iO E0 H0 Ek se alts body st Q r)
def jXt (P : PX) (L : Nat) (np : Nat) (top : Bool) (an : Option Ann) (body : Sx → KK → An) (st : Sx) (Q : KK) : An := match an with
 | none => no1 166 st
 | some an => jBa P (mM st.n st.E []) an.cv st fun st => tZ an.sp st fun st => bif an.once && top then pY np [] [] L st an.alts
  else jP (Nat.ble st.n 100000 && Nat.blt 0 st.n) 180 st [] (match oL st.E an.ks with
  | Ek => tO (pY st.n st.E st.H L st an.alts) (iO st.E st.H Ek an.se an.alts body st Q an.alts))
def xK (P : PX) (cur : LT) (L np : Nat) (an : Nat → Option Ann) (hs : Nat → Option (List LT)) (kd : Nat → Nat) : K → Bool → Nat → Sx → KK → An
 | .skip, _, _, st, Q => Q .nrm st
 | .reg ops, _, _, st, Q => xR P cur hs kd ops st (Q .nrm)
 | .dreg ops, _, _, st, Q => xD P cur kd ops st [] 0 [] (Q .nrm)
 | .fr _ _ _, _, _, st, _ => no1 156 st
 | .seq a b, top, id, st, Q => xK P cur L np an hs kd a top id st (jSe (fun st => xK P cur L np an hs kd b top id st Q) Q)
 | .cond c a b, top, id, st, Q => xv st c fun c => jBe c st fun r st => bif r then xK P cur L np an hs kd a top id st Q else xK P cur L np an hs kd b top id st Q
 | .block id c, top, _, st, Q => xK P cur L np an hs kd c top id st (jTm id Q)
 | .loop c, top, id, st, Q => jXt P L np top (an id) (fun st Q => xK P cur L np an hs kd c false id st Q) st Q
 | .exit id, _, _, st, Q => Q (.exit id) st
 | .ret, _, _, st, Q => Q .ret st
 | .no, _, _, st, _ => no1 168 st
def xW (P : PX) (cur : LT) (L np : Nat) (an : Nat → Option Ann) (hs : Nat → Option (List LT)) (kd : Nat → Nat) (b0 : Sx) : K → Nat → KK → An
 | .seq a b, id, Q => tO (xW P cur L np an hs kd b0 a id (jSe (fun st => xK P cur L np an hs kd b true id st Q) Q)) (xW P cur L np an hs kd b0 b id Q)
 | .cond _ a b, id, Q => tO (xW P cur L np an hs kd b0 a id Q) (xW P cur L np an hs kd b0 b id Q)
 | .block id c, _, Q => xW P cur L np an hs kd b0 c id (jTm id Q)
 | .loop c, id, Q => (match an id with
  | some a => bif a.once then jP (Nat.ble np 100000 && Nat.blt 0 np) 181 b0 [] (iO [] [] [] a.se a.alts (fun st Q => xK P cur L np an hs kd c false id st Q) b0 Q a.alts) else done
  | none => done)
 | _, _, _ => done
def jKp (P : PX) : List RV0 → Sx → (List SX → Sx → An) → An
 | [], st, Q => Q [] st
 | .t n :: r, st, Q => (match yN st.E n with | some v => jKp P r st fun l st => Q (v :: l) st | none => no1 169 st)
 | .c a n :: r, st, Q => (match yN st.E a with | some a => xLd P n a st fun v st => jP (v.sc st.n) 182 st [] (jKp P r st fun l st => Q (v :: l) st) | none => no1 170 st)
def jXm : List SX → SX
 | [v] => v
 | l => .tup l
def jQt (P : PX) (k : Nat) (hb : HX) (st : Sx) (Q : HX → Sx → An) : An := match hb.c, P.bt hb.e with
 | .l l, some ts => bJ P ts l st fun l fr st => jP (mP k fr && (kT l && scs st.n l)) 171 st [] (Q ⟨hb.e, hb.g, .l l⟩ st)
 | .l l, none => Q ⟨hb.e, hb.g, .l l⟩ st
 | _, _ => Q hb st
def nT (P : PX) (k : Nat) : Nat → List HX → Sx → (List HX → Sx → An) → An
 | 0, _, st, Q => Q [] st
 | n + 1, hb :: r, st, Q => jQt P k hb st fun hb st => nT P k n r st fun r st => Q (hb :: r) st
 | _ + 1, [], st, _ => no1 172 st
def jVi (np : Nat) (σ : Bd) : Sb := ⟨fun w => bif Nat.blt w np then LT.var w else bvT (lkB σ w), fun w => bif Nat.blt w np then w else bvL (lkB σ w), fun w => bif Nat.blt w np then ⟨Nat.succ w, 0⟩ else bvG (lkB σ w)⟩
def iB (np : Nat) (st : Sx) (v : SX) (H : List HX) (p : gE) : An := jHz np (np + p.k) (jVi np) st p.B (bH np (np + p.k) p.H H (bX np (np + p.k) p.r v [])) fun σ => match jVi np σ with
 | s => eqv st (p.r.inst s) v (eqH st (kJ s p.H) H (hY st (uW s p.F) (uW s p.N) (gX s p.B) done))
def dY (np : Nat) (st : Sx) (v : SX) (H : List HX) : List gE → List An
 | [] => []
 | p :: r => iB np st v H p :: dY np st v H r
def lD (np : Nat) (st : Sx) (v : SX) (H : List HX) (posts : List gE) : An := match posts with
 | [p] => iB np st v H p
 | posts => sel st (dY np st v H posts) fun _ => done
def jKn (P : PX) (f k np : Nat) (posts : List gE) (res : List RV0) (e : E) (st : Sx) : An := match e with
 | .exit _ => no1 173 st
 | _ => jKp P res st fun l st => jGy P (P.sg f).2 (jXm l) st fun v fr st => nT P k k st.H st fun H' st => jP (Nat.ble (dM v) k && (Nat.ble (gH H') k && mP k fr)) 174 (st.setE [(0, v)]) [] (lD np ((st.setE [(0, v)]).setH H') v H' posts)
def jEj (np : Nat) (p : gE) : Bool := p.r.sc (np + p.k) && (scH (np + p.k) p.H && (scF (np + p.k) p.F && (scF (np + p.k) p.N && scB (np + p.k) p.B)))
def eI (np : Nat) : List gE → Bool
 | [] => true
 | p :: r => jEj np p && eI np r
def jJh (ct : CtX) : Bool := eI ct.np ct.posts && (scs ct.np ct.args && (scH ct.np ct.H && (scF ct.np ct.F && (scF ct.np ct.N && (scB ct.np ct.B && ct.dep.sc ct.np)))))
def lL : List SX → Nat → EX
 | [], _ => []
 | v :: r, k => (k, v) :: lL r (k + 1)
def xF (P : PX) (L : Nat) (f : Nat) (g : F) (ct : CtX) (an : Nat → Option Ann) (hs : Nat → Option (List LT)) (kd : Nat → Nat) : An := match (⟨ct.np, lL ct.args 0, ct.H, ct.F, ct.N, ct.B⟩ : Sx) with
 | st => jP (Nat.ble (jS ct.args) g.nt && jJh ct) 176 st [] (ask st (ct.dep.addc (-1)) (tO (xK P ct.dep L ct.np an hs kd g.body true 0 st (jKn P f (jS ct.H) ct.np ct.posts g.res)) (xW P ct.dep L ct.np an hs kd st g.body 0 (jKn P f (jS ct.H) ct.np ct.posts g.res))))
def xF1 (P : PX) (L : Nat) (f : Nat) (g : F) (ct : CtX) (an : Nat → Option Ann) (hs : Nat → Option (List LT)) (kd : Nat → Nat) : An := match (⟨ct.np, lL ct.args 0, ct.H, ct.F, ct.N, ct.B⟩ : Sx) with
 | st => jP (Nat.ble (jS ct.args) g.nt && jJh ct) 176 st [] (ask st (ct.dep.addc (-1)) (xK P ct.dep L ct.np an hs kd g.body true 0 st (jKn P f (jS ct.H) ct.np ct.posts g.res)))
def xF2 (P : PX) (L : Nat) (f : Nat) (g : F) (ct : CtX) (an : Nat → Option Ann) (hs : Nat → Option (List LT)) (kd : Nat → Nat) : An := match (⟨ct.np, lL ct.args 0, ct.H, ct.F, ct.N, ct.B⟩ : Sx) with
 | st => xW P ct.dep L ct.np an hs kd st g.body 0 (jKn P f (jS ct.H) ct.np ct.posts g.res)
end
end Go.Proofs.YthfmepmchaofjaaGreat.Ev.Rf
end
