/-
  The evaluator by recursors, each arm closed: what the kernel runs. It gives what evF gives. No program is named here.
-/
import Derived.Test.YtpflpjkbiopmpaaGreatDoorEvK
set_option linter.unusedVariables false
set_option linter.unusedSimpArgs false
set_option linter.unnecessarySimpa false
set_option linter.all false
namespace Go.Proofs.YtpflpjkbiopmpaaGreatDoor.Ev
open Go
noncomputable section

inductive Pth where
  | e
  | x
  | l (p : Pth)
  | z (p : Pth)
/-- the way to a slot. -/
def pthZ : Nat → Nat → Pth := Nat.rec (motive := fun _ => Nat → Pth) (fun _ => .x) (fun _ ih k => Nat.rec (motive := fun _ => (Nat → Pth) → Pth) (fun _ => .e) (fun m _ ih => Bool.rec (Pth.z (ih (Nat.div m (nat_lit 2)))) (Pth.l (ih (Nat.div m (nat_lit 2)))) (Nat.beq (Nat.mod m (nat_lit 2)) (nat_lit 0))) k ih)
def wayZ (n : Nat) : Pth := pthZ (Nat.succ n) n
def way30 (n : Nat) : Pth := pthZ (nat_lit 30) n
def getT : Tr AV → Pth → Option AV := Tr.rec (motive := fun _ => Pth → Option AV) (fun _ => none) (fun v _ _ ihl ihr p => Pth.rec (motive := fun _ => Option AV → (Pth → Option AV) → (Pth → Option AV) → Option AV) (fun v _ _ => v) (fun _ _ _ => none) (fun q _ _ ihl _ => ihl q) (fun q _ _ _ ihr => ihr q) p v ihl ihr)
def setT : Pth → Tr AV → Option AV → Tr AV := Pth.rec (motive := fun _ => Tr AV → Option AV → Tr AV) (fun t x => Tr.rec (motive := fun _ => Option AV → Tr AV) (fun x => .n x .e .e) (fun _ l r _ _ x => .n x l r) t x) (fun t _ => t)
  (fun _ ih t x => Tr.rec (motive := fun _ => (Tr AV → Option AV → Tr AV) → Option AV → Tr AV) (fun ih x => .n none (ih .e x) .e) (fun v l r _ _ ih x => .n v (ih l x) r) t ih x)
  (fun _ ih t x => Tr.rec (motive := fun _ => (Tr AV → Option AV → Tr AV) → Option AV → Tr AV) (fun ih x => .n none .e (ih .e x)) (fun v l r _ _ ih x => .n v l (ih r x)) t ih x)
theorem getT_eq : ∀ (f k : Nat) (t : Tr AV), k < f → getT t (pthZ f k) = t.get k
  | 0, _, _, h => absurd h (by omega)
  | f + 1, 0, .e, _ => rfl
  | f + 1, 0, .n v l r, _ => rfl
  | f + 1, m + 1, .e, _ => rfl
  | f + 1, m + 1, .n v l r, h => by
    have hd : m / 2 < f := by omega
    have hl := getT_eq f (m / 2) l hd
    have hr := getT_eq f (m / 2) r hd
    show getT (.n v l r) (Bool.rec (Pth.z (pthZ f (m / 2))) (Pth.l (pthZ f (m / 2))) (Nat.beq (m % 2) 0)) = (if m % 2 == 0 then l.get (m / 2) else r.get (m / 2))
    by_cases e : m % 2 = 0
    · have e1 : Nat.beq (m % 2) 0 = true := by simpa using e
      rw [e1, if_pos (by simpa using e)]; exact hl
    · have e1 : Nat.beq (m % 2) 0 = false := Bool.eq_false_iff.mpr fun h => e (Nat.eq_of_beq_eq_true h)
      rw [e1, if_neg (by simpa using e)]; exact hr
theorem setT_eq : ∀ (f k : Nat) (t : Tr AV) (x : Option AV), setT (pthZ f k) t x = Tr.set f t k x
  | 0, _, _, _ => by simp [Tr.set]; rfl
  | f + 1, 0, .e, _ => rfl
  | f + 1, 0, .n v l r, _ => rfl
  | f + 1, m + 1, .e, x => by
    have hl := setT_eq f (m / 2) .e x
    show setT (Bool.rec (Pth.z (pthZ f (m / 2))) (Pth.l (pthZ f (m / 2))) (Nat.beq (m % 2) 0)) .e x = (if m % 2 == 0 then .n none (Tr.set f .e (m / 2) x) .e else .n none .e (Tr.set f .e (m / 2) x))
    by_cases e : m % 2 = 0
    · have e1 : Nat.beq (m % 2) 0 = true := by simpa using e
      rw [e1, if_pos (by simpa using e), ← hl]; rfl
    · have e1 : Nat.beq (m % 2) 0 = false := Bool.eq_false_iff.mpr fun h => e (Nat.eq_of_beq_eq_true h)
      rw [e1, if_neg (by simpa using e), ← hl]; rfl
  | f + 1, m + 1, .n v l r, x => by
    have hl := setT_eq f (m / 2) l x
    have hr := setT_eq f (m / 2) r x
    show setT (Bool.rec (Pth.z (pthZ f (m / 2))) (Pth.l (pthZ f (m / 2))) (Nat.beq (m % 2) 0)) (.n v l r) x = (if m % 2 == 0 then .n v (Tr.set f l (m / 2) x) r else .n v l (Tr.set f r (m / 2) x))
    by_cases e : m % 2 = 0
    · have e1 : Nat.beq (m % 2) 0 = true := by simpa using e
      rw [e1, if_pos (by simpa using e), ← hl]; rfl
    · have e1 : Nat.beq (m % 2) 0 = false := Bool.eq_false_iff.mpr fun h => e (Nat.eq_of_beq_eq_true h)
      rw [e1, if_neg (by simpa using e), ← hr]; rfl
def getB : Tr ABlk → Pth → Option ABlk := Tr.rec (motive := fun _ => Pth → Option ABlk) (fun _ => none) (fun v _ _ ihl ihr p => Pth.rec (motive := fun _ => Option ABlk → (Pth → Option ABlk) → (Pth → Option ABlk) → Option ABlk) (fun v _ _ => v) (fun _ _ _ => none) (fun q _ _ ihl _ => ihl q) (fun q _ _ _ ihr => ihr q) p v ihl ihr)
def setB : Pth → Tr ABlk → Option ABlk → Tr ABlk := Pth.rec (motive := fun _ => Tr ABlk → Option ABlk → Tr ABlk) (fun t x => Tr.rec (motive := fun _ => Option ABlk → Tr ABlk) (fun x => .n x .e .e) (fun _ l r _ _ x => .n x l r) t x) (fun t _ => t)
  (fun _ ih t x => Tr.rec (motive := fun _ => (Tr ABlk → Option ABlk → Tr ABlk) → Option ABlk → Tr ABlk) (fun ih x => .n none (ih .e x) .e) (fun v l r _ _ ih x => .n v (ih l x) r) t ih x)
  (fun _ ih t x => Tr.rec (motive := fun _ => (Tr ABlk → Option ABlk → Tr ABlk) → Option ABlk → Tr ABlk) (fun ih x => .n none .e (ih .e x)) (fun v l r _ _ ih x => .n v l (ih r x)) t ih x)
theorem getB_eq : ∀ (f k : Nat) (t : Tr ABlk), k < f → getB t (pthZ f k) = t.get k
  | 0, _, _, h => absurd h (by omega)
  | f + 1, 0, .e, _ => rfl
  | f + 1, 0, .n v l r, _ => rfl
  | f + 1, m + 1, .e, _ => rfl
  | f + 1, m + 1, .n v l r, h => by
    have hd : m / 2 < f := by omega
    have hl := getB_eq f (m / 2) l hd
    have hr := getB_eq f (m / 2) r hd
    show getB (.n v l r) (Bool.rec (Pth.z (pthZ f (m / 2))) (Pth.l (pthZ f (m / 2))) (Nat.beq (m % 2) 0)) = (if m % 2 == 0 then l.get (m / 2) else r.get (m / 2))
    by_cases e : m % 2 = 0
    · have e1 : Nat.beq (m % 2) 0 = true := by simpa using e
      rw [e1, if_pos (by simpa using e)]; exact hl
    · have e1 : Nat.beq (m % 2) 0 = false := Bool.eq_false_iff.mpr fun h => e (Nat.eq_of_beq_eq_true h)
      rw [e1, if_neg (by simpa using e)]; exact hr
theorem setB_eq : ∀ (f k : Nat) (t : Tr ABlk) (x : Option ABlk), setB (pthZ f k) t x = Tr.set f t k x
  | 0, _, _, _ => by simp [Tr.set]; rfl
  | f + 1, 0, .e, _ => rfl
  | f + 1, 0, .n v l r, _ => rfl
  | f + 1, m + 1, .e, x => by
    have hl := setB_eq f (m / 2) .e x
    show setB (Bool.rec (Pth.z (pthZ f (m / 2))) (Pth.l (pthZ f (m / 2))) (Nat.beq (m % 2) 0)) .e x = (if m % 2 == 0 then .n none (Tr.set f .e (m / 2) x) .e else .n none .e (Tr.set f .e (m / 2) x))
    by_cases e : m % 2 = 0
    · have e1 : Nat.beq (m % 2) 0 = true := by simpa using e
      rw [e1, if_pos (by simpa using e), ← hl]; rfl
    · have e1 : Nat.beq (m % 2) 0 = false := Bool.eq_false_iff.mpr fun h => e (Nat.eq_of_beq_eq_true h)
      rw [e1, if_neg (by simpa using e), ← hl]; rfl
  | f + 1, m + 1, .n v l r, x => by
    have hl := setB_eq f (m / 2) l x
    have hr := setB_eq f (m / 2) r x
    show setB (Bool.rec (Pth.z (pthZ f (m / 2))) (Pth.l (pthZ f (m / 2))) (Nat.beq (m % 2) 0)) (.n v l r) x = (if m % 2 == 0 then .n v (Tr.set f l (m / 2) x) r else .n v l (Tr.set f r (m / 2) x))
    by_cases e : m % 2 = 0
    · have e1 : Nat.beq (m % 2) 0 = true := by simpa using e
      rw [e1, if_pos (by simpa using e), ← hl]; rfl
    · have e1 : Nat.beq (m % 2) 0 = false := Bool.eq_false_iff.mpr fun h => e (Nat.eq_of_beq_eq_true h)
      rw [e1, if_neg (by simpa using e), ← hr]; rfl

/-- one of two answers. -/
def selZ (b : Bool) (x y : Option AV) : Option AV := Bool.rec y x b
theorem selZ_eq (b : Bool) (x y : Option AV) : selZ b x y = if b then x else y := by cases b <;> rfl
def orU : Option AV → AV := Option.rec undefA (fun v => v)
def evX : X → T → AV := X.rec (motive := fun _ => T → AV) (fun n τ => orU (getT τ (wayZ n))) (fun v _ => v)
theorem evX_eq : evX = X.ev := by
  funext x τ
  cases x with
  | k v => rfl
  | t n =>
    show orU (getT τ (wayZ n)) = (match τ.get n with | some v => v | none => undefA)
    unfold wayZ
    rw [getT_eq _ _ _ (Nat.lt_succ_self n)]
    cases τ.get n <;> rfl
def evsZ : List X → T → List AV := List.rec (motive := fun _ => T → List AV) (fun _ => []) (fun x _ ih τ => evX x τ :: ih τ)
theorem evsZ_eq (τ : T) : ∀ l, evsZ l τ = evs τ l
  | [] => rfl
  | x :: r => by
    show evX x τ :: evsZ r τ = _
    rw [evX_eq, evsZ_eq τ r]; rfl
def resP : Option AV → Mem → Option (AV × Mem) := Option.rec (motive := fun _ => Mem → Option (AV × Mem)) (fun _ => none) (fun v σ => some (v, σ))
theorem resP_eq (v : Option AV) (σ : Mem) : resP v σ = eP σ v := by cases v <;> rfl
def eqKZ : IntKind → IntKind → Bool := IntKind.rec (motive := fun _ => IntKind → Bool)
  (IntKind.rec true false false false false false false false)
  (IntKind.rec false true false false false false false false)
  (IntKind.rec false false true false false false false false)
  (IntKind.rec false false false true false false false false)
  (IntKind.rec false false false false true false false false)
  (IntKind.rec false false false false false true false false)
  (IntKind.rec false false false false false false true false)
  (IntKind.rec false false false false false false false true)
theorem eqKZ_eq (a b : IntKind) : eqKZ a b = eqK a b := by cases a <;> cases b <;> rfl
def limZ : IntKind → Nat := IntKind.rec (nat_lit 127) (nat_lit 32767) (nat_lit 2147483647) (nat_lit 9223372036854775807) (nat_lit 255) (nat_lit 65535) (nat_lit 4294967295) (nat_lit 18446744073709551615)
/-- mkI at a natural number. -/
def natZ (s : Nat) (k : IntKind) : Option AV := Nat.rec (motive := fun _ => IntKind → Option AV) (fun k => some (.i k (.ofNat (nat_lit 0)))) (fun s _ k => Bool.rec (mkI k (.ofNat (Nat.succ s))) (some (.i k (.ofNat (Nat.succ s)))) (Nat.ble (Nat.succ s) (limZ k))) s k
theorem mkI_nat (k : IntKind) (s : Nat) (h : s ≤ limZ k) : mkI k (.ofNat s) = some (.i k (.ofNat s)) := by
  have hw : wrapA k (.ofNat s) = .ofNat s := by
    unfold wrapA
    cases k <;> simp only [limZ] at h <;> simp [IntKind.wrap, IntKind.signed, IntKind.bits, okInt] <;> omega
  unfold mkI
  rw [hw]
  unfold forceI forceN
  cases s <;> rfl
theorem natZ_eq (s : Nat) (k : IntKind) : natZ s k = mkI k (.ofNat s) := by
  cases s with
  | zero => exact (mkI_nat k 0 (Nat.zero_le _)).symm
  | succ s =>
    show Bool.rec (motive := fun _ => Option AV) (mkI k (.ofNat (Nat.succ s))) (some (.i k (.ofNat (Nat.succ s)))) (Nat.ble (Nat.succ s) (limZ k)) = _
    cases h : Nat.ble (Nat.succ s) (limZ k) with
    | false => rfl
    | true => exact (mkI_nat k _ (Nat.le_of_ble_eq_true h)).symm
def intZ (k : IntKind) (n : Int) : Option AV := Int.rec (motive := fun _ => IntKind → Option AV) (fun s k => natZ s k) (fun s k => mkI k (.negSucc s)) n k
theorem intZ_eq (k : IntKind) (n : Int) : intZ k n = mkI k n := by cases n with | ofNat s => exact natZ_eq s k | negSucc s => rfl
def eqIZ : Int → Int → Bool := Int.rec (motive := fun _ => Int → Bool) (fun m b => Int.rec (motive := fun _ => Nat → Bool) (fun n m => Nat.beq m n) (fun _ _ => false) b m) (fun m b => Int.rec (motive := fun _ => Nat → Bool) (fun _ _ => false) (fun n m => Nat.beq m n) b m)
theorem eqIZ_eq (a b : Int) : eqIZ a b = eqI a b := by cases a <;> cases b <;> rfl
def ltIZ : Int → Int → Bool := Int.rec (motive := fun _ => Int → Bool) (fun m b => Int.rec (motive := fun _ => Nat → Bool) (fun n m => Nat.ble (Nat.succ m) n) (fun _ _ => false) b m) (fun m b => Int.rec (motive := fun _ => Nat → Bool) (fun _ _ => true) (fun n m => Nat.ble (Nat.succ n) m) b m)
theorem ltIZ_eq (a b : Int) : ltIZ a b = ltI a b := by cases a <;> cases b <;> rfl
def notZ : Bool → Bool := Bool.rec true false
theorem notZ_eq (b : Bool) : notZ b = !b := by cases b <;> rfl
def andZ : Bool → Bool → Bool := Bool.rec (motive := fun _ => Bool → Bool) (fun _ => false) (fun b => b)
def eqSZ (n v m u : Nat) : Bool := andZ (Nat.beq n m) (Nat.beq v u)
theorem eqSZ_eq (n v m u : Nat) : eqSZ n v m u = eqS n v m u := by unfold eqSZ eqS; cases Nat.beq n m <;> rfl

def binEql (x : AV) : AV → Option AV := AV.rec (motive_1 := fun _ => AV → Option AV) (motive_2 := fun _ => PUnit) (fun _ => fun y => binM .eql x y) (fun k a => fun y => AV.rec (motive_1 := fun _ => IntKind → Int → Option AV) (motive_2 := fun _ => PUnit) (fun _ => fun k a => binM .eql (.i k a) y) (fun k' b => fun k a => Bool.rec none (some (.b (eqIZ a b))) (eqKZ k k')) (fun _ _ => fun k a => binM .eql (.i k a) y) (fun k a => binM .eql (.i k a) y) (fun _ _ => fun k a => binM .eql (.i k a) y) (fun k a => binM .eql (.i k a) y) (fun _ _ _ _ => fun k a => binM .eql (.i k a) y) (fun k a => binM .eql (.i k a) y) (fun _ _ _ _ _ => fun k a => binM .eql (.i k a) y) (fun k a => binM .eql (.i k a) y) (fun _ _ _ => fun k a => binM .eql (.i k a) y) (fun _ => fun k a => binM .eql (.i k a) y) (fun _ => fun k a => binM .eql (.i k a) y) (fun k a => binM .eql (.i k a) y) (fun _ _ _ _ => fun k a => binM .eql (.i k a) y) (fun _ _ _ _ => fun k a => binM .eql (.i k a) y) (fun _ _ => fun k a => binM .eql (.i k a) y) (fun _ _ => fun k a => binM .eql (.i k a) y) (fun _ _ => fun k a => binM .eql (.i k a) y) PUnit.unit (fun _ _ _ _ => PUnit.unit) y k a) (fun n v => fun y => AV.rec (motive_1 := fun _ => Nat → Nat → Option AV) (motive_2 := fun _ => PUnit) (fun _ => fun n v => binM .eql (.s n v) y) (fun _ _ => fun n v => binM .eql (.s n v) y) (fun m u => fun n v => some (.b (eqSZ n v m u))) (fun n v => binM .eql (.s n v) y) (fun _ _ => fun n v => binM .eql (.s n v) y) (fun n v => binM .eql (.s n v) y) (fun _ _ _ _ => fun n v => binM .eql (.s n v) y) (fun n v => binM .eql (.s n v) y) (fun _ _ _ _ _ => fun n v => binM .eql (.s n v) y) (fun n v => binM .eql (.s n v) y) (fun _ _ _ => fun n v => binM .eql (.s n v) y) (fun _ => fun n v => binM .eql (.s n v) y) (fun _ => fun n v => binM .eql (.s n v) y) (fun n v => binM .eql (.s n v) y) (fun _ _ _ _ => fun n v => binM .eql (.s n v) y) (fun _ _ _ _ => fun n v => binM .eql (.s n v) y) (fun _ _ => fun n v => binM .eql (.s n v) y) (fun _ _ => fun n v => binM .eql (.s n v) y) (fun _ _ => fun n v => binM .eql (.s n v) y) PUnit.unit (fun _ _ _ _ => PUnit.unit) y n v) (fun y => binM .eql x y) (fun _ _ => fun y => binM .eql x y) (fun y => binM .eql x y) (fun _ _ _ _ => fun y => binM .eql x y) (fun y => binM .eql x y) (fun _ _ _ _ _ => fun y => binM .eql x y) (fun y => binM .eql x y) (fun _ _ _ => fun y => binM .eql x y) (fun _ => fun y => binM .eql x y) (fun _ => fun y => binM .eql x y) (fun y => binM .eql x y) (fun _ _ _ _ => fun y => binM .eql x y) (fun _ _ _ _ => fun y => binM .eql x y) (fun _ _ => fun y => binM .eql x y) (fun _ _ => fun y => binM .eql x y) (fun _ _ => fun y => binM .eql x y) PUnit.unit (fun _ _ _ _ => PUnit.unit) x
def binNeq (x : AV) : AV → Option AV := AV.rec (motive_1 := fun _ => AV → Option AV) (motive_2 := fun _ => PUnit) (fun _ => fun y => binM .neq x y) (fun k a => fun y => AV.rec (motive_1 := fun _ => IntKind → Int → Option AV) (motive_2 := fun _ => PUnit) (fun _ => fun k a => binM .neq (.i k a) y) (fun k' b => fun k a => Bool.rec none (some (.b (notZ (eqIZ a b)))) (eqKZ k k')) (fun _ _ => fun k a => binM .neq (.i k a) y) (fun k a => binM .neq (.i k a) y) (fun _ _ => fun k a => binM .neq (.i k a) y) (fun k a => binM .neq (.i k a) y) (fun _ _ _ _ => fun k a => binM .neq (.i k a) y) (fun k a => binM .neq (.i k a) y) (fun _ _ _ _ _ => fun k a => binM .neq (.i k a) y) (fun k a => binM .neq (.i k a) y) (fun _ _ _ => fun k a => binM .neq (.i k a) y) (fun _ => fun k a => binM .neq (.i k a) y) (fun _ => fun k a => binM .neq (.i k a) y) (fun k a => binM .neq (.i k a) y) (fun _ _ _ _ => fun k a => binM .neq (.i k a) y) (fun _ _ _ _ => fun k a => binM .neq (.i k a) y) (fun _ _ => fun k a => binM .neq (.i k a) y) (fun _ _ => fun k a => binM .neq (.i k a) y) (fun _ _ => fun k a => binM .neq (.i k a) y) PUnit.unit (fun _ _ _ _ => PUnit.unit) y k a) (fun n v => fun y => AV.rec (motive_1 := fun _ => Nat → Nat → Option AV) (motive_2 := fun _ => PUnit) (fun _ => fun n v => binM .neq (.s n v) y) (fun _ _ => fun n v => binM .neq (.s n v) y) (fun m u => fun n v => some (.b (notZ (eqSZ n v m u)))) (fun n v => binM .neq (.s n v) y) (fun _ _ => fun n v => binM .neq (.s n v) y) (fun n v => binM .neq (.s n v) y) (fun _ _ _ _ => fun n v => binM .neq (.s n v) y) (fun n v => binM .neq (.s n v) y) (fun _ _ _ _ _ => fun n v => binM .neq (.s n v) y) (fun n v => binM .neq (.s n v) y) (fun _ _ _ => fun n v => binM .neq (.s n v) y) (fun _ => fun n v => binM .neq (.s n v) y) (fun _ => fun n v => binM .neq (.s n v) y) (fun n v => binM .neq (.s n v) y) (fun _ _ _ _ => fun n v => binM .neq (.s n v) y) (fun _ _ _ _ => fun n v => binM .neq (.s n v) y) (fun _ _ => fun n v => binM .neq (.s n v) y) (fun _ _ => fun n v => binM .neq (.s n v) y) (fun _ _ => fun n v => binM .neq (.s n v) y) PUnit.unit (fun _ _ _ _ => PUnit.unit) y n v) (fun y => binM .neq x y) (fun _ _ => fun y => binM .neq x y) (fun y => binM .neq x y) (fun _ _ _ _ => fun y => binM .neq x y) (fun y => binM .neq x y) (fun _ _ _ _ _ => fun y => binM .neq x y) (fun y => binM .neq x y) (fun _ _ _ => fun y => binM .neq x y) (fun _ => fun y => binM .neq x y) (fun _ => fun y => binM .neq x y) (fun y => binM .neq x y) (fun _ _ _ _ => fun y => binM .neq x y) (fun _ _ _ _ => fun y => binM .neq x y) (fun _ _ => fun y => binM .neq x y) (fun _ _ => fun y => binM .neq x y) (fun _ _ => fun y => binM .neq x y) PUnit.unit (fun _ _ _ _ => PUnit.unit) x
def binLss (x : AV) : AV → Option AV := AV.rec (motive_1 := fun _ => AV → Option AV) (motive_2 := fun _ => PUnit) (fun _ => fun y => binM .lss x y) (fun k a => fun y => AV.rec (motive_1 := fun _ => IntKind → Int → Option AV) (motive_2 := fun _ => PUnit) (fun _ => fun k a => binM .lss (.i k a) y) (fun k' b => fun k a => Bool.rec none (some (.b (ltIZ a b))) (eqKZ k k')) (fun _ _ => fun k a => binM .lss (.i k a) y) (fun k a => binM .lss (.i k a) y) (fun _ _ => fun k a => binM .lss (.i k a) y) (fun k a => binM .lss (.i k a) y) (fun _ _ _ _ => fun k a => binM .lss (.i k a) y) (fun k a => binM .lss (.i k a) y) (fun _ _ _ _ _ => fun k a => binM .lss (.i k a) y) (fun k a => binM .lss (.i k a) y) (fun _ _ _ => fun k a => binM .lss (.i k a) y) (fun _ => fun k a => binM .lss (.i k a) y) (fun _ => fun k a => binM .lss (.i k a) y) (fun k a => binM .lss (.i k a) y) (fun _ _ _ _ => fun k a => binM .lss (.i k a) y) (fun _ _ _ _ => fun k a => binM .lss (.i k a) y) (fun _ _ => fun k a => binM .lss (.i k a) y) (fun _ _ => fun k a => binM .lss (.i k a) y) (fun _ _ => fun k a => binM .lss (.i k a) y) PUnit.unit (fun _ _ _ _ => PUnit.unit) y k a) (fun n v => fun y => binA .lss (.s n v) y) (fun y => binM .lss x y) (fun _ _ => fun y => binM .lss x y) (fun y => binM .lss x y) (fun _ _ _ _ => fun y => binM .lss x y) (fun y => binM .lss x y) (fun _ _ _ _ _ => fun y => binM .lss x y) (fun y => binM .lss x y) (fun _ _ _ => fun y => binM .lss x y) (fun _ => fun y => binM .lss x y) (fun _ => fun y => binM .lss x y) (fun y => binM .lss x y) (fun _ _ _ _ => fun y => binM .lss x y) (fun _ _ _ _ => fun y => binM .lss x y) (fun _ _ => fun y => binM .lss x y) (fun _ _ => fun y => binM .lss x y) (fun _ _ => fun y => binM .lss x y) PUnit.unit (fun _ _ _ _ => PUnit.unit) x
def binLeq (x : AV) : AV → Option AV := AV.rec (motive_1 := fun _ => AV → Option AV) (motive_2 := fun _ => PUnit) (fun _ => fun y => binM .leq x y) (fun k a => fun y => AV.rec (motive_1 := fun _ => IntKind → Int → Option AV) (motive_2 := fun _ => PUnit) (fun _ => fun k a => binM .leq (.i k a) y) (fun k' b => fun k a => Bool.rec none (some (.b (notZ (ltIZ b a)))) (eqKZ k k')) (fun _ _ => fun k a => binM .leq (.i k a) y) (fun k a => binM .leq (.i k a) y) (fun _ _ => fun k a => binM .leq (.i k a) y) (fun k a => binM .leq (.i k a) y) (fun _ _ _ _ => fun k a => binM .leq (.i k a) y) (fun k a => binM .leq (.i k a) y) (fun _ _ _ _ _ => fun k a => binM .leq (.i k a) y) (fun k a => binM .leq (.i k a) y) (fun _ _ _ => fun k a => binM .leq (.i k a) y) (fun _ => fun k a => binM .leq (.i k a) y) (fun _ => fun k a => binM .leq (.i k a) y) (fun k a => binM .leq (.i k a) y) (fun _ _ _ _ => fun k a => binM .leq (.i k a) y) (fun _ _ _ _ => fun k a => binM .leq (.i k a) y) (fun _ _ => fun k a => binM .leq (.i k a) y) (fun _ _ => fun k a => binM .leq (.i k a) y) (fun _ _ => fun k a => binM .leq (.i k a) y) PUnit.unit (fun _ _ _ _ => PUnit.unit) y k a) (fun n v => fun y => binA .leq (.s n v) y) (fun y => binM .leq x y) (fun _ _ => fun y => binM .leq x y) (fun y => binM .leq x y) (fun _ _ _ _ => fun y => binM .leq x y) (fun y => binM .leq x y) (fun _ _ _ _ _ => fun y => binM .leq x y) (fun y => binM .leq x y) (fun _ _ _ => fun y => binM .leq x y) (fun _ => fun y => binM .leq x y) (fun _ => fun y => binM .leq x y) (fun y => binM .leq x y) (fun _ _ _ _ => fun y => binM .leq x y) (fun _ _ _ _ => fun y => binM .leq x y) (fun _ _ => fun y => binM .leq x y) (fun _ _ => fun y => binM .leq x y) (fun _ _ => fun y => binM .leq x y) PUnit.unit (fun _ _ _ _ => PUnit.unit) x
def binGtr (x : AV) : AV → Option AV := AV.rec (motive_1 := fun _ => AV → Option AV) (motive_2 := fun _ => PUnit) (fun _ => fun y => binM .gtr x y) (fun k a => fun y => AV.rec (motive_1 := fun _ => IntKind → Int → Option AV) (motive_2 := fun _ => PUnit) (fun _ => fun k a => binM .gtr (.i k a) y) (fun k' b => fun k a => Bool.rec none (some (.b (ltIZ b a))) (eqKZ k k')) (fun _ _ => fun k a => binM .gtr (.i k a) y) (fun k a => binM .gtr (.i k a) y) (fun _ _ => fun k a => binM .gtr (.i k a) y) (fun k a => binM .gtr (.i k a) y) (fun _ _ _ _ => fun k a => binM .gtr (.i k a) y) (fun k a => binM .gtr (.i k a) y) (fun _ _ _ _ _ => fun k a => binM .gtr (.i k a) y) (fun k a => binM .gtr (.i k a) y) (fun _ _ _ => fun k a => binM .gtr (.i k a) y) (fun _ => fun k a => binM .gtr (.i k a) y) (fun _ => fun k a => binM .gtr (.i k a) y) (fun k a => binM .gtr (.i k a) y) (fun _ _ _ _ => fun k a => binM .gtr (.i k a) y) (fun _ _ _ _ => fun k a => binM .gtr (.i k a) y) (fun _ _ => fun k a => binM .gtr (.i k a) y) (fun _ _ => fun k a => binM .gtr (.i k a) y) (fun _ _ => fun k a => binM .gtr (.i k a) y) PUnit.unit (fun _ _ _ _ => PUnit.unit) y k a) (fun n v => fun y => binA .gtr (.s n v) y) (fun y => binM .gtr x y) (fun _ _ => fun y => binM .gtr x y) (fun y => binM .gtr x y) (fun _ _ _ _ => fun y => binM .gtr x y) (fun y => binM .gtr x y) (fun _ _ _ _ _ => fun y => binM .gtr x y) (fun y => binM .gtr x y) (fun _ _ _ => fun y => binM .gtr x y) (fun _ => fun y => binM .gtr x y) (fun _ => fun y => binM .gtr x y) (fun y => binM .gtr x y) (fun _ _ _ _ => fun y => binM .gtr x y) (fun _ _ _ _ => fun y => binM .gtr x y) (fun _ _ => fun y => binM .gtr x y) (fun _ _ => fun y => binM .gtr x y) (fun _ _ => fun y => binM .gtr x y) PUnit.unit (fun _ _ _ _ => PUnit.unit) x
def binGeq (x : AV) : AV → Option AV := AV.rec (motive_1 := fun _ => AV → Option AV) (motive_2 := fun _ => PUnit) (fun _ => fun y => binM .geq x y) (fun k a => fun y => AV.rec (motive_1 := fun _ => IntKind → Int → Option AV) (motive_2 := fun _ => PUnit) (fun _ => fun k a => binM .geq (.i k a) y) (fun k' b => fun k a => Bool.rec none (some (.b (notZ (ltIZ a b)))) (eqKZ k k')) (fun _ _ => fun k a => binM .geq (.i k a) y) (fun k a => binM .geq (.i k a) y) (fun _ _ => fun k a => binM .geq (.i k a) y) (fun k a => binM .geq (.i k a) y) (fun _ _ _ _ => fun k a => binM .geq (.i k a) y) (fun k a => binM .geq (.i k a) y) (fun _ _ _ _ _ => fun k a => binM .geq (.i k a) y) (fun k a => binM .geq (.i k a) y) (fun _ _ _ => fun k a => binM .geq (.i k a) y) (fun _ => fun k a => binM .geq (.i k a) y) (fun _ => fun k a => binM .geq (.i k a) y) (fun k a => binM .geq (.i k a) y) (fun _ _ _ _ => fun k a => binM .geq (.i k a) y) (fun _ _ _ _ => fun k a => binM .geq (.i k a) y) (fun _ _ => fun k a => binM .geq (.i k a) y) (fun _ _ => fun k a => binM .geq (.i k a) y) (fun _ _ => fun k a => binM .geq (.i k a) y) PUnit.unit (fun _ _ _ _ => PUnit.unit) y k a) (fun n v => fun y => binA .geq (.s n v) y) (fun y => binM .geq x y) (fun _ _ => fun y => binM .geq x y) (fun y => binM .geq x y) (fun _ _ _ _ => fun y => binM .geq x y) (fun y => binM .geq x y) (fun _ _ _ _ _ => fun y => binM .geq x y) (fun y => binM .geq x y) (fun _ _ _ => fun y => binM .geq x y) (fun _ => fun y => binM .geq x y) (fun _ => fun y => binM .geq x y) (fun y => binM .geq x y) (fun _ _ _ _ => fun y => binM .geq x y) (fun _ _ _ _ => fun y => binM .geq x y) (fun _ _ => fun y => binM .geq x y) (fun _ _ => fun y => binM .geq x y) (fun _ _ => fun y => binM .geq x y) PUnit.unit (fun _ _ _ _ => PUnit.unit) x
def addI : Int → Int → IntKind → Option AV := Int.rec (motive := fun _ => Int → IntKind → Option AV) (fun m b k => Int.rec (motive := fun _ => Nat → IntKind → Option AV) (fun n m k => natZ (Nat.add m n) k) (fun n m k => mkI k (Int.ofNat m + Int.negSucc n)) b m k) (fun m b k => mkI k (Int.negSucc m + b))
theorem addI_eq (a b : Int) (k : IntKind) : addI a b k = mkI k (a + b) := by cases a with | ofNat m => (cases b with | ofNat n => exact natZ_eq _ k | negSucc n => rfl) | negSucc m => rfl
def subI : Int → Int → IntKind → Option AV := Int.rec (motive := fun _ => Int → IntKind → Option AV) (fun m b k => Int.rec (motive := fun _ => Nat → IntKind → Option AV) (fun n m k => Bool.rec (mkI k (Int.ofNat m - Int.ofNat n)) (natZ (Nat.sub m n) k) (Nat.ble n m)) (fun n m k => mkI k (Int.ofNat m - Int.negSucc n)) b m k) (fun m b k => mkI k (Int.negSucc m - b))
theorem subI_eq (a b : Int) (k : IntKind) : subI a b k = mkI k (a - b) := by
  cases a with
  | negSucc m => rfl
  | ofNat m =>
    cases b with
    | negSucc n => rfl
    | ofNat n =>
      show Bool.rec (motive := fun _ => Option AV) (mkI k (Int.ofNat m - Int.ofNat n)) (natZ (Nat.sub m n) k) (Nat.ble n m) = _
      cases h : Nat.ble n m with
      | false => rfl
      | true =>
        show natZ (m - n) k = _
        rw [natZ_eq]
        have := Nat.le_of_ble_eq_true h
        congr 1
        show ((m - n : Nat) : Int) = (m : Int) - (n : Int)
        omega
def binAdd (x : AV) : AV → Option AV := AV.rec (motive_1 := fun _ => AV → Option AV) (motive_2 := fun _ => PUnit) (fun _ => fun y => binM .add x y) (fun k a => fun y => AV.rec (motive_1 := fun _ => IntKind → Int → Option AV) (motive_2 := fun _ => PUnit) (fun _ => fun k a => binM .add (.i k a) y) (fun k' b => fun k a => Bool.rec none (addI a b k) (eqKZ k k')) (fun _ _ => fun k a => binM .add (.i k a) y) (fun k a => binM .add (.i k a) y) (fun _ _ => fun k a => binM .add (.i k a) y) (fun k a => binM .add (.i k a) y) (fun _ _ _ _ => fun k a => binM .add (.i k a) y) (fun k a => binM .add (.i k a) y) (fun _ _ _ _ _ => fun k a => binM .add (.i k a) y) (fun k a => binM .add (.i k a) y) (fun _ _ _ => fun k a => binM .add (.i k a) y) (fun _ => fun k a => binM .add (.i k a) y) (fun _ => fun k a => binM .add (.i k a) y) (fun k a => binM .add (.i k a) y) (fun _ _ _ _ => fun k a => binM .add (.i k a) y) (fun _ _ _ _ => fun k a => binM .add (.i k a) y) (fun _ _ => fun k a => binM .add (.i k a) y) (fun _ _ => fun k a => binM .add (.i k a) y) (fun _ _ => fun k a => binM .add (.i k a) y) PUnit.unit (fun _ _ _ _ => PUnit.unit) y k a) (fun n v => fun y => binA .add (.s n v) y) (fun y => binM .add x y) (fun _ _ => fun y => binM .add x y) (fun y => binM .add x y) (fun _ _ _ _ => fun y => binM .add x y) (fun y => binM .add x y) (fun _ _ _ _ _ => fun y => binM .add x y) (fun y => binM .add x y) (fun _ _ _ => fun y => binM .add x y) (fun _ => fun y => binM .add x y) (fun _ => fun y => binM .add x y) (fun y => binM .add x y) (fun _ _ _ _ => fun y => binM .add x y) (fun _ _ _ _ => fun y => binM .add x y) (fun _ _ => fun y => binM .add x y) (fun _ _ => fun y => binM .add x y) (fun _ _ => fun y => binM .add x y) PUnit.unit (fun _ _ _ _ => PUnit.unit) x
def binSub (x : AV) : AV → Option AV := AV.rec (motive_1 := fun _ => AV → Option AV) (motive_2 := fun _ => PUnit) (fun _ => fun y => binM .sub x y) (fun k a => fun y => AV.rec (motive_1 := fun _ => IntKind → Int → Option AV) (motive_2 := fun _ => PUnit) (fun _ => fun k a => binM .sub (.i k a) y) (fun k' b => fun k a => Bool.rec none (subI a b k) (eqKZ k k')) (fun _ _ => fun k a => binM .sub (.i k a) y) (fun k a => binM .sub (.i k a) y) (fun _ _ => fun k a => binM .sub (.i k a) y) (fun k a => binM .sub (.i k a) y) (fun _ _ _ _ => fun k a => binM .sub (.i k a) y) (fun k a => binM .sub (.i k a) y) (fun _ _ _ _ _ => fun k a => binM .sub (.i k a) y) (fun k a => binM .sub (.i k a) y) (fun _ _ _ => fun k a => binM .sub (.i k a) y) (fun _ => fun k a => binM .sub (.i k a) y) (fun _ => fun k a => binM .sub (.i k a) y) (fun k a => binM .sub (.i k a) y) (fun _ _ _ _ => fun k a => binM .sub (.i k a) y) (fun _ _ _ _ => fun k a => binM .sub (.i k a) y) (fun _ _ => fun k a => binM .sub (.i k a) y) (fun _ _ => fun k a => binM .sub (.i k a) y) (fun _ _ => fun k a => binM .sub (.i k a) y) PUnit.unit (fun _ _ _ _ => PUnit.unit) y k a) (fun n v => fun y => binA .sub (.s n v) y) (fun y => binM .sub x y) (fun _ _ => fun y => binM .sub x y) (fun y => binM .sub x y) (fun _ _ _ _ => fun y => binM .sub x y) (fun y => binM .sub x y) (fun _ _ _ _ _ => fun y => binM .sub x y) (fun y => binM .sub x y) (fun _ _ _ => fun y => binM .sub x y) (fun _ => fun y => binM .sub x y) (fun _ => fun y => binM .sub x y) (fun y => binM .sub x y) (fun _ _ _ _ => fun y => binM .sub x y) (fun _ _ _ _ => fun y => binM .sub x y) (fun _ _ => fun y => binM .sub x y) (fun _ _ => fun y => binM .sub x y) (fun _ _ => fun y => binM .sub x y) PUnit.unit (fun _ _ _ _ => PUnit.unit) x
def binZ : BinOp → AV → AV → Option AV := BinOp.rec (motive := fun _ => AV → AV → Option AV) binAdd binSub (binA .mul) (binA .quo) (binA .rem) (binA .and) (binA .or) (binA .xor) (binA .shl) (binA .shr) (binA .andNot) binEql binNeq binLss binLeq binGtr binGeq
set_option maxHeartbeats 1000000 in
theorem binZ_eq (o : BinOp) (x y : AV) : binZ o x y = binA o x y := by
  cases o <;> first | rfl | (cases x <;> first | rfl | (cases y <;> first | rfl | skip))
  all_goals first
    | (rename_i k a k' b
       simp only [binZ, binA, isShift, binEql, binNeq, binLss, binLeq, binGtr, binGeq, binAdd, binSub, eqIZ_eq, ltIZ_eq, eqKZ_eq, addI_eq, subI_eq, notZ_eq]
       cases eqK k k' <;> rfl)
    | (rename_i n v m u
       simp only [binZ, binA, binS, binEql, binNeq, eqSZ_eq, notZ_eq]
       done)

def nthZ : List AV → Nat → Option AV := List.rec (motive := fun _ => Nat → Option AV) (fun _ => none) (fun a _ ih k => Nat.rec (motive := fun _ => AV → (Nat → Option AV) → Option AV) (fun a _ => some a) (fun m _ _ ih => ih m) k a ih)
theorem nthZ_eq : ∀ (l : List AV) k, nthZ l k = nthN k l
  | [], 0 => rfl
  | [], _ + 1 => rfl
  | _ :: _, 0 => rfl
  | _ :: r, k + 1 => nthZ_eq r k
def dropZ : Nat → List AV → List AV := Nat.rec (motive := fun _ => List AV → List AV) (fun l => l) (fun _ ih l => List.rec (motive := fun _ => (List AV → List AV) → List AV) (fun _ => []) (fun _ r _ ih => ih r) l ih)
theorem dropZ_eq : ∀ n (l : List AV), dropZ n l = dropN n l
  | 0, _ => by simp only [dropN]; rfl
  | _ + 1, [] => rfl
  | n + 1, _ :: r => dropZ_eq n r
def takeC : Option (List AV) → AV → Option (List AV) := Option.rec (motive := fun _ => AV → Option (List AV)) (fun _ => none) (fun r a => some (a :: r))
def takeZ : Nat → List AV → Option (List AV) := Nat.rec (motive := fun _ => List AV → Option (List AV)) (fun _ => some []) (fun _ ih l => List.rec (motive := fun _ => (List AV → Option (List AV)) → Option (List AV)) (fun _ => none) (fun a r _ ih => takeC (ih r) a) l ih)
theorem takeZ_eq : ∀ n (l : List AV), takeZ n l = takeN n l
  | 0, _ => by simp only [takeN]; rfl
  | _ + 1, [] => rfl
  | n + 1, a :: r => by
    show takeC (takeZ n r) a = _
    rw [takeZ_eq n r]
    simp only [takeN]
    cases takeN n r <;> rfl
def putC : Option (List AV) → AV → Option (List AV) := takeC
def putNZ : List AV → List AV → Option (List AV) := List.rec (motive := fun _ => List AV → Option (List AV)) (fun l => some l) (fun v _ ih l => List.rec (motive := fun _ => AV → (List AV → Option (List AV)) → Option (List AV)) (fun _ _ => none) (fun _ r _ v ih => takeC (ih r) v) l v ih)
theorem putNZ_eq : ∀ (vs l : List AV), putNZ vs l = putN vs l
  | [], _ => by simp only [putN]; rfl
  | _ :: _, [] => rfl
  | v :: vs, _ :: l => by
    show takeC (putNZ vs l) v = _
    rw [putNZ_eq vs l]
    simp only [putN]
    cases putN vs l <;> rfl
def putAtZ : Nat → List AV → List AV → Option (List AV) := Nat.rec (motive := fun _ => List AV → List AV → Option (List AV)) putNZ (fun _ ih vs l => List.rec (motive := fun _ => (List AV → List AV → Option (List AV)) → List AV → Option (List AV)) (fun _ _ => none) (fun a r _ ih vs => takeC (ih vs r) a) l ih vs)
theorem putAtZ_eq : ∀ n (vs l : List AV), putAtZ n vs l = putAt n vs l
  | 0, vs, l => by simp only [putAt]; exact putNZ_eq vs l
  | _ + 1, _, [] => rfl
  | n + 1, vs, a :: l => by
    show takeC (putAtZ n vs l) a = _
    rw [putAtZ_eq n vs l]
    simp only [putAt]
    cases putAt n vs l <;> rfl
def sizeZ : Nat → List AV → Bool := Nat.rec (motive := fun _ => List AV → Bool) (List.rec (motive := fun _ => Bool) true (fun _ _ _ => false)) (fun _ ih l => List.rec (motive := fun _ => (List AV → Bool) → Bool) (fun _ => false) (fun _ r _ ih => ih r) l ih)
theorem sizeZ_eq : ∀ n (l : List AV), sizeZ n l = sizeL n l
  | 0, [] => rfl
  | 0, _ :: _ => rfl
  | _ + 1, [] => rfl
  | n + 1, _ :: r => sizeZ_eq n r
def oneZ : AV → Bool := AV.rec (motive_1 := fun _ => Bool) (motive_2 := fun _ => PUnit) (fun _ => true) (fun _ _ => true) (fun _ _ => true) (true) (fun _ _ => true) (true) (fun _ _ _ _ => true) (true) (fun _ _ _ _ _ => true) (true) (fun _ _ _ => true) (fun _ => true) (fun _ => true) (true) (fun _ _ _ _ => true) (fun _ _ _ _ => true) (fun _ _ => true) (fun _ _ => false) (fun _ _ => false) PUnit.unit (fun _ _ _ _ => PUnit.unit)
theorem oneZ_eq (v : AV) : oneZ v = v.one := by cases v <;> rfl
def allOneZ : List AV → Bool := List.rec true (fun v _ ih => andZ (oneZ v) ih)
theorem allOneZ_eq : ∀ l, allOneZ l = allOne l
  | [] => rfl
  | v :: r => by
    show andZ (oneZ v) (allOneZ r) = _
    rw [oneZ_eq, allOneZ_eq r]
    simp only [allOne]
    cases v.one <;> rfl
def cellsZ (v : AV) : List AV := AV.rec (motive_1 := fun _ => AV → List AV) (motive_2 := fun _ => PUnit) (fun _ => fun v => [v]) (fun _ _ => fun v => [v]) (fun _ _ => fun v => [v]) (fun v => [v]) (fun _ _ => fun v => [v]) (fun v => [v]) (fun _ _ _ _ => fun v => [v]) (fun v => [v]) (fun _ _ _ _ _ => fun v => [v]) (fun v => [v]) (fun _ _ _ => fun v => [v]) (fun _ => fun v => [v]) (fun _ => fun v => [v]) (fun v => [v]) (fun _ _ _ _ => fun v => [v]) (fun _ _ _ _ => fun v => [v]) (fun _ _ => fun v => [v]) (fun l _ => fun _ => l) (fun _ _ => fun v => [v]) PUnit.unit (fun _ _ _ _ => PUnit.unit) v v
theorem cellsZ_eq (v : AV) : cellsZ v = v.cells := by cases v <;> rfl
/-- allocation. -/
def newM (t : Tr ABlk) (n : Nat) (it : Tr It) (blk : ABlk) (v : AV) : Option (AV × Mem) := Bool.rec none (some (v, ⟨setB (way30 n) t (some blk), Nat.succ n, it⟩)) (Nat.ble (Nat.succ n) (nat_lit 1000000000))
def newP (σ : Mem) (blk : ABlk) : Option (AV × Mem) := Mem.rec (motive := fun _ => ABlk → Option (AV × Mem)) (fun t nx it blk => Nat.rec (motive := fun _ => Tr ABlk → Tr It → ABlk → Option (AV × Mem)) (fun t it blk => newM t (nat_lit 0) it blk (.p (nat_lit 0) (nat_lit 0))) (fun n _ t it blk => newM t (Nat.succ n) it blk (.p (Nat.succ n) (nat_lit 0))) nx t it blk) σ blk
theorem newP_eq (σ : Mem) (blk : ABlk) : newP σ blk = (match σ.new blk with | some (b, σ) => some (.p b 0, σ) | none => none) := by
  obtain ⟨t, nx, it⟩ := σ
  have : newP ⟨t, nx, it⟩ blk = newM t nx it blk (.p nx 0) := by cases nx <;> rfl
  rw [this]
  unfold newM Mem.new way30
  simp only [setB_eq]
  show (Bool.rec none _ (Nat.blt nx 1000000000) : Option (AV × Mem)) = _
  cases Nat.blt nx 1000000000 <;> rfl
def alZ (e : Nat) (z : List AV) (σ : Mem) : Option (AV × Mem) := Bool.rec (motive := fun _ => Nat → List AV → Mem → Option (AV × Mem)) (fun _ _ _ => none) (fun e z σ => newP σ ⟨e, true, z⟩) (allOneZ z) e z σ
theorem alZ_eq (e : Nat) (z : List AV) (σ : Mem) : alZ e z σ = newA σ e true z fun b => .p b 0 := by
  unfold alZ newA
  rw [allOneZ_eq]
  cases allOne z with
  | false => rfl
  | true =>
    show newP σ _ = _
    rw [newP_eq]
    rfl
theorem bxZ_eq (e : Nat) (l : List AV) (σ : Mem) : alZ e l σ = eBx e l σ := by
  unfold eBx
  rw [alZ_eq]
  unfold newA
  cases allOne l <;> rfl
def ld1 : Option ABlk → Nat → Option AV := Option.rec (motive := fun _ => Nat → Option AV) (fun _ => none) (fun b o => nthZ b.cells o)
def aggO : Option (List AV) → Option AV := Option.rec none (fun l => some (.agg l))
def ldN : Option ABlk → Nat → Nat → Option AV := Option.rec (motive := fun _ => Nat → Nat → Option AV) (fun _ _ => none) (fun b o n => aggO (takeZ n (dropZ o b.cells)))
def ldM (n : Option Nat) (b o : Nat) (σ : Mem) : Option AV := Option.rec (motive := fun _ => Nat → Nat → Mem → Option AV) (fun b o σ => ld1 (getB σ.t (wayZ b)) o) (fun n b o σ => ldN (getB σ.t (wayZ b)) o n) n b o σ
theorem load1 (l : List AV) (o : Nat) : nthN o l = (match takeN 1 (dropN o l) with | some (v :: _) => some v | _ => none) := by
  induction o generalizing l with
  | zero => cases l <;> simp [nthN, dropN, takeN]
  | succ o ih => cases l with | nil => simp [nthN, dropN, takeN] | cons a r => simpa only [nthN, dropN] using ih r
theorem ldM_eq (n : Option Nat) (b o : Nat) (σ : Mem) : ldM n b o σ = ldA σ b o n := by
  cases n with
  | none =>
    show ld1 (getB σ.t (wayZ b)) o = _
    unfold wayZ ldA Mem.load
    rw [getB_eq _ _ _ (Nat.lt_succ_self b)]
    cases σ.t.get b with
    | none => rfl
    | some blk => exact (nthZ_eq _ _).trans (load1 _ _)
  | some n =>
    show ldN (getB σ.t (wayZ b)) o n = _
    unfold wayZ ldA Mem.load
    rw [getB_eq _ _ _ (Nat.lt_succ_self b)]
    cases σ.t.get b with
    | none => rfl
    | some blk =>
      show aggO (takeZ n (dropZ o blk.cells)) = _
      rw [takeZ_eq, dropZ_eq]
      simp only
      cases takeN n (dropN o blk.cells) <;> rfl
def ldZ (n : Option Nat) (v : AV) (σ : Mem) : Option (AV × Mem) := AV.rec (motive_1 := fun _ => Option Nat → Mem → Option (AV × Mem)) (motive_2 := fun _ => PUnit) (fun _ => fun _ _ => none) (fun _ _ => fun _ _ => none) (fun _ _ => fun _ _ => none) (fun _ _ => none) (fun b o => fun n σ => resP (ldM n b o σ) σ) (fun _ _ => none) (fun _ _ _ _ => fun _ _ => none) (fun _ _ => none) (fun _ _ _ _ _ => fun _ _ => none) (fun _ _ => none) (fun _ _ _ => fun _ _ => none) (fun _ => fun _ _ => none) (fun _ => fun _ _ => none) (fun _ _ => none) (fun _ _ _ _ => fun _ _ => none) (fun _ _ _ _ => fun _ _ => none) (fun _ _ => fun _ _ => none) (fun _ _ => fun _ _ => none) (fun _ _ => fun _ _ => none) PUnit.unit (fun _ _ _ _ => PUnit.unit) v n σ
theorem ldZ_eq (n : Option Nat) (a : X) (τ : T) (σ : Mem) : ldZ n (a.ev τ) σ = eP σ (xLd n a τ σ) := by
  unfold xLd
  cases a.ev τ <;> first | rfl | skip
  show resP (ldM n _ _ σ) σ = _
  rw [ldM_eq, resP_eq]
def stC : Option (List AV) → Nat → ABlk → Mem → Option (AV × Mem) := Option.rec (motive := fun _ => Nat → ABlk → Mem → Option (AV × Mem)) (fun _ _ _ => none) (fun cs b blk σ => some (undefA, ⟨setB (way30 b) σ.t (some ⟨blk.elem, blk.plain, cs⟩), σ.nx, σ.it⟩))
def stB : Option ABlk → Nat → Nat → List AV → Mem → Option (AV × Mem) := Option.rec (motive := fun _ => Nat → Nat → List AV → Mem → Option (AV × Mem)) (fun _ _ _ _ => none) (fun blk b o l σ => stC (putAtZ o l blk.cells) b blk σ)
def stL (b o n : Nat) (l : List AV) (σ : Mem) : Option (AV × Mem) := Bool.rec (motive := fun _ => Nat → Nat → List AV → Mem → Option (AV × Mem)) (fun _ _ _ _ => none) (fun b o l σ => stB (getB σ.t (wayZ b)) b o l σ) (andZ (sizeZ n l) (allOneZ l)) b o l σ
theorem stL_eq (b o n : Nat) (l : List AV) (σ : Mem) : stL b o n l σ = eStL b o n l σ := by
  unfold stL eStL
  rw [sizeZ_eq, allOneZ_eq]
  have : andZ (sizeL n l) (allOne l) = (sizeL n l && allOne l) := by cases sizeL n l <;> rfl
  rw [this]
  cases (sizeL n l && allOne l) with
  | false => rfl
  | true =>
    show stB (getB σ.t (wayZ b)) b o l σ = (match σ.store b o l with | some σ => some (undefA, σ) | none => none)
    unfold wayZ Mem.store
    rw [getB_eq _ _ _ (Nat.lt_succ_self b)]
    cases σ.t.get b with
    | none => rfl
    | some blk =>
      show stC (putAtZ o l blk.cells) b blk σ = _
      rw [putAtZ_eq]
      simp only
      cases putAt o l blk.cells with
      | none => rfl
      | some cs =>
        show some (undefA, (⟨setB (way30 b) σ.t (some ⟨blk.elem, blk.plain, cs⟩), σ.nx, σ.it⟩ : Mem)) = _
        unfold way30
        rw [setB_eq]
def stZ (n : Nat) (a : AV) (x : X) (τ : T) (σ : Mem) : Option (AV × Mem) := AV.rec (motive_1 := fun _ => Nat → X → T → Mem → Option (AV × Mem)) (motive_2 := fun _ => PUnit) (fun _ => fun _ _ _ _ => none) (fun _ _ => fun _ _ _ _ => none) (fun _ _ => fun _ _ _ _ => none) (fun _ _ _ _ => none) (fun b o => fun n x τ σ => stL b o n (cellsZ (evX x τ)) σ) (fun _ _ _ _ => none) (fun _ _ _ _ => fun _ _ _ _ => none) (fun _ _ _ _ => none) (fun _ _ _ _ _ => fun _ _ _ _ => none) (fun _ _ _ _ => none) (fun _ _ _ => fun _ _ _ _ => none) (fun _ => fun _ _ _ _ => none) (fun _ => fun _ _ _ _ => none) (fun _ _ _ _ => none) (fun _ _ _ _ => fun _ _ _ _ => none) (fun _ _ _ _ => fun _ _ _ _ => none) (fun _ _ => fun _ _ _ _ => none) (fun _ _ => fun _ _ _ _ => none) (fun _ _ => fun _ _ _ _ => none) PUnit.unit (fun _ _ _ _ => PUnit.unit) a n x τ σ
theorem stZ_eq (n : Nat) (a x : X) (τ : T) (σ : Mem) : stZ n (a.ev τ) x τ σ = eSt n a x τ σ := by
  unfold eSt
  cases a.ev τ <;> first | rfl | skip
  show stL _ _ n (cellsZ (evX x τ)) σ = _
  rw [stL_eq, cellsZ_eq, evX_eq]
def pickZ (c : AV) (a b : X) (τ : T) (σ : Mem) : Option (AV × Mem) := AV.rec (motive_1 := fun _ => X → X → T → Mem → Option (AV × Mem)) (motive_2 := fun _ => PUnit) (fun x => Bool.rec (motive := fun _ => X → X → T → Mem → Option (AV × Mem)) (fun _ b τ σ => some (evX b τ, σ)) (fun a _ τ σ => some (evX a τ, σ)) x) (fun _ _ => fun _ _ _ _ => none) (fun _ _ => fun _ _ _ _ => none) (fun _ _ _ _ => none) (fun _ _ => fun _ _ _ _ => none) (fun _ _ _ _ => none) (fun _ _ _ _ => fun _ _ _ _ => none) (fun _ _ _ _ => none) (fun _ _ _ _ _ => fun _ _ _ _ => none) (fun _ _ _ _ => none) (fun _ _ _ => fun _ _ _ _ => none) (fun _ => fun _ _ _ _ => none) (fun _ => fun _ _ _ _ => none) (fun _ _ _ _ => none) (fun _ _ _ _ => fun _ _ _ _ => none) (fun _ _ _ _ => fun _ _ _ _ => none) (fun _ _ => fun _ _ _ _ => none) (fun _ _ => fun _ _ _ _ => none) (fun _ _ => fun _ _ _ _ => none) PUnit.unit (fun _ _ _ _ => PUnit.unit) c a b τ σ
theorem pickZ_eq (c a b : X) (τ : T) (σ : Mem) : pickZ (c.ev τ) a b τ σ = eP σ (xPick c a b τ) := by
  unfold xPick
  cases c.ev τ with
  | b x => (cases x) <;> (simp only [pickZ, evX_eq]; rfl)
  | _ => rfl
def ncZ (v : AV) (σ : Mem) : Option (AV × Mem) := AV.rec (motive_1 := fun _ => Mem → Option (AV × Mem)) (motive_2 := fun _ => PUnit) (fun _ => fun _ => none) (fun _ _ => fun _ => none) (fun _ _ => fun _ => none) (fun _ => none) (fun b o => fun σ => some (.p b o, σ)) (fun _ => none) (fun _ _ _ _ => fun _ => none) (fun _ => none) (fun g a c _ _ => fun σ => some (.f g a c, σ)) (fun _ => none) (fun _ _ _ => fun _ => none) (fun _ => fun _ => none) (fun _ => fun _ => none) (fun _ => none) (fun _ _ _ _ => fun _ => none) (fun _ _ _ _ => fun _ => none) (fun _ _ => fun _ => none) (fun _ _ => fun _ => none) (fun _ _ => fun _ => none) PUnit.unit (fun _ _ _ _ => PUnit.unit) v σ
theorem ncZ_eq (x : X) (τ : T) (σ : Mem) : ncZ (x.ev τ) σ = eP σ (xNc x τ) := by
  unfold xNc
  cases x.ev τ <;> rfl
def unN (v : AV) (σ : Mem) : Option (AV × Mem) := AV.rec (motive_1 := fun _ => Mem → Option (AV × Mem)) (motive_2 := fun _ => PUnit) (fun x => fun σ => some (.b (notZ x), σ)) (fun _ _ => fun _ => none) (fun _ _ => fun _ => none) (fun _ => none) (fun _ _ => fun _ => none) (fun _ => none) (fun _ _ _ _ => fun _ => none) (fun _ => none) (fun _ _ _ _ _ => fun _ => none) (fun _ => none) (fun _ _ _ => fun _ => none) (fun _ => fun _ => none) (fun _ => fun _ => none) (fun _ => none) (fun _ _ _ _ => fun _ => none) (fun _ _ _ _ => fun _ => none) (fun _ _ => fun _ => none) (fun _ _ => fun _ => none) (fun _ _ => fun _ => none) PUnit.unit (fun _ _ _ _ => PUnit.unit) v σ
def unZ : UnOp → AV → Mem → Option (AV × Mem) := fun o v σ => UnOp.rec (motive := fun _ => AV → Mem → Option (AV × Mem)) (fun v σ => eP σ (unA .neg v)) (fun v σ => eP σ (unA .xor v)) unN (fun v σ => eP σ (unA .plus v)) o v σ
theorem unZ_eq (o : UnOp) (v : AV) (σ : Mem) : unZ o v σ = eP σ (unA o v) := by
  cases o <;> first | rfl | (cases v <;> first | rfl | (simp only [unZ, unN, notZ_eq]; rfl))
def faZ (off : Nat) (v : AV) (σ : Mem) : Option (AV × Mem) := AV.rec (motive_1 := fun _ => Nat → Mem → Option (AV × Mem)) (motive_2 := fun _ => PUnit) (fun _ => fun _ _ => none) (fun _ _ => fun _ _ => none) (fun _ _ => fun _ _ => none) (fun _ _ => none) (fun b o => fun off σ => Nat.rec (motive := fun _ => Nat → Mem → Option (AV × Mem)) (fun b σ => some (.p b (nat_lit 0), σ)) (fun o _ b σ => some (.p b (Nat.succ o), σ)) (Nat.add o off) b σ) (fun _ _ => none) (fun _ _ _ _ => fun _ _ => none) (fun _ _ => none) (fun _ _ _ _ _ => fun _ _ => none) (fun _ _ => none) (fun _ _ _ => fun _ _ => none) (fun _ => fun _ _ => none) (fun _ => fun _ _ => none) (fun _ _ => none) (fun _ _ _ _ => fun _ _ => none) (fun _ _ _ _ => fun _ _ => none) (fun _ _ => fun _ _ => none) (fun _ _ => fun _ _ => none) (fun _ _ => fun _ _ => none) PUnit.unit (fun _ _ _ _ => PUnit.unit) v off σ
theorem faZ_eq (off : Nat) (x : X) (τ : T) (σ : Mem) : faZ off (x.ev τ) σ = eP σ (xFa off x τ) := by
  unfold xFa
  cases x.ev τ with
  | p b o =>
    show (Nat.rec (motive := fun _ => Nat → Mem → Option (AV × Mem)) (fun b σ => some (.p b (nat_lit 0), σ)) (fun o _ b σ => some (.p b (Nat.succ o), σ)) (o + off) b σ) = _
    simp only [forceN]
    cases o + off <;> rfl
  | _ => rfl
def ixB (c : Nat) (σ : Mem) : Option (AV × Mem) := Nat.rec (motive := fun _ => Mem → Option (AV × Mem)) (fun σ => some (.i .u8 (.ofNat (nat_lit 0)), σ)) (fun c _ σ => some (.i .u8 (.ofNat (Nat.succ c)), σ)) c σ
def ixI (k : Int) (n v : Nat) (σ : Mem) : Option (AV × Mem) := Int.rec (motive := fun _ => Nat → Nat → Mem → Option (AV × Mem)) (fun c n v σ => Bool.rec none (ixB (Nat.mod (Nat.div v (Nat.pow (nat_lit 256) c)) (nat_lit 256)) σ) (Nat.ble (Nat.succ c) n)) (fun _ _ _ _ => none) k n v σ
def ixA (i : AV) (n v : Nat) (σ : Mem) : Option (AV × Mem) := AV.rec (motive_1 := fun _ => Nat → Nat → Mem → Option (AV × Mem)) (motive_2 := fun _ => PUnit) (fun _ => fun _ _ _ => none) (fun _ k => fun n v σ => ixI k n v σ) (fun _ _ => fun _ _ _ => none) (fun _ _ _ => none) (fun _ _ => fun _ _ _ => none) (fun _ _ _ => none) (fun _ _ _ _ => fun _ _ _ => none) (fun _ _ _ => none) (fun _ _ _ _ _ => fun _ _ _ => none) (fun _ _ _ => none) (fun _ _ _ => fun _ _ _ => none) (fun _ => fun _ _ _ => none) (fun _ => fun _ _ _ => none) (fun _ _ _ => none) (fun _ _ _ _ => fun _ _ _ => none) (fun _ _ _ _ => fun _ _ _ => none) (fun _ _ => fun _ _ _ => none) (fun _ _ => fun _ _ _ => none) (fun _ _ => fun _ _ _ => none) PUnit.unit (fun _ _ _ _ => PUnit.unit) i n v σ
def ixM (l : List AV) (i : AV) (σ : Mem) : Option (AV × Mem) := resP (Option.rec none (fun k => nthZ l k) (asN i)) σ
def ixZ (s : AV) (i : X) (τ : T) (σ : Mem) : Option (AV × Mem) := AV.rec (motive_1 := fun _ => X → T → Mem → Option (AV × Mem)) (motive_2 := fun _ => PUnit) (fun _ => fun _ _ _ => none) (fun _ _ => fun _ _ _ => none) (fun n v => fun i τ σ => ixA (evX i τ) n v σ) (fun _ _ _ => none) (fun _ _ => fun _ _ _ => none) (fun _ _ _ => none) (fun _ _ _ _ => fun _ _ _ => none) (fun _ _ _ => none) (fun _ _ _ _ _ => fun _ _ _ => none) (fun _ _ _ => none) (fun _ _ _ => fun _ _ _ => none) (fun _ => fun _ _ _ => none) (fun _ => fun _ _ _ => none) (fun _ _ _ => none) (fun _ _ _ _ => fun _ _ _ => none) (fun _ _ _ _ => fun _ _ _ => none) (fun l _ => fun i τ σ => ixM l (evX i τ) σ) (fun _ _ => fun _ _ _ => none) (fun _ _ => fun _ _ _ => none) PUnit.unit (fun _ _ _ _ => PUnit.unit) s i τ σ
theorem ixZ_eq (x i : X) (τ : T) (σ : Mem) : ixZ (x.ev τ) i τ σ = eP σ (xIx x i τ) := by
  unfold xIx
  cases x.ev τ <;> first | rfl | skip
  rotate_left
  · rename_i l
    show ixM l (evX i τ) σ = _
    rw [evX_eq]
    unfold ixM
    cases asN (i.ev τ) with
    | none => rfl
    | some k =>
      show resP (nthZ l k) σ = _
      rw [nthZ_eq, resP_eq]
  rename_i n v
  show ixA (evX i τ) n v σ = _
  rw [evX_eq]
  cases i.ev τ <;> first | rfl | skip
  rename_i k c
  cases c with
  | negSucc c => rfl
  | ofNat c =>
    show Bool.rec (motive := fun _ => Option (AV × Mem)) none (ixB (Nat.mod (Nat.div v (Nat.pow (nat_lit 256) c)) (nat_lit 256)) σ) (Nat.blt c n) = _
    simp only [asN]
    cases Nat.blt c n with
    | false => rfl
    | true =>
      simp only [forceN]
      show ixB (Nat.mod (Nat.div v (Nat.pow 256 c)) 256) σ = _
      unfold ixB
      cases Nat.mod (Nat.div v (Nat.pow 256 c)) 256 <;> rfl
def lnZ (v : AV) (σ : Mem) : Option (AV × Mem) := AV.rec (motive_1 := fun _ => Mem → Option (AV × Mem)) (motive_2 := fun _ => PUnit) (fun _ => fun _ => none) (fun _ _ => fun _ => none) (fun n _ => fun σ => some (.i .i64 (.ofNat n), σ)) (fun _ => none) (fun _ _ => fun _ => none) (fun _ => none) (fun _ _ _ _ => fun _ => none) (fun _ => none) (fun _ _ _ _ _ => fun _ => none) (fun _ => none) (fun _ _ _ => fun _ => none) (fun _ => fun _ => none) (fun _ => fun _ => none) (fun _ => none) (fun _ _ _ _ => fun _ => none) (fun _ _ _ _ => fun _ => none) (fun l _ => fun σ => some (.i .i64 (.ofNat (lenL l (nat_lit 0))), σ)) (fun _ _ => fun _ => none) (fun _ _ => fun _ => none) PUnit.unit (fun _ _ _ _ => PUnit.unit) v σ
theorem lnZ_eq (x : X) (τ : T) (σ : Mem) : lnZ (x.ev τ) σ = eP σ (xLn x τ) := by
  unfold xLn
  cases x.ev τ <;> rfl
def lmZ (v : AV) (σ : Mem) : Option (AV × Mem) := AV.rec (motive_1 := fun _ => Mem → Option (AV × Mem)) (motive_2 := fun _ => PUnit) (fun _ => fun _ => none) (fun _ _ => fun _ => none) (fun _ _ => fun _ => none) (fun _ => none) (fun _ _ => fun _ => none) (fun σ => some (.i .i64 (.ofNat (nat_lit 0)), σ)) (fun _ _ n _ => fun σ => some (.i .i64 (.ofNat n), σ)) (fun _ => none) (fun _ _ _ _ _ => fun _ => none) (fun _ => none) (fun _ _ _ => fun _ => none) (fun _ => fun _ => none) (fun _ => fun _ => none) (fun _ => none) (fun _ _ _ _ => fun _ => none) (fun _ q lo hi => fun σ => some (.mr q .i64 lo hi, σ)) (fun _ _ => fun _ => none) (fun _ _ => fun _ => none) (fun _ _ => fun _ => none) PUnit.unit (fun _ _ _ _ => PUnit.unit) v σ
theorem lmZ_eq (x : X) (τ : T) (σ : Mem) : lmZ (x.ev τ) σ = eP σ (xLm x τ) := by
  unfold xLm
  cases x.ev τ <;> rfl
def exZ (n : Nat) (v : AV) (σ : Mem) : Option (AV × Mem) := AV.rec (motive_1 := fun _ => Nat → Mem → Option (AV × Mem)) (motive_2 := fun _ => PUnit) (fun _ => fun _ _ => none) (fun _ _ => fun _ _ => none) (fun _ _ => fun _ _ => none) (fun _ _ => none) (fun _ _ => fun _ _ => none) (fun _ _ => none) (fun _ _ _ _ => fun _ _ => none) (fun _ _ => none) (fun _ _ _ _ _ => fun _ _ => none) (fun _ _ => none) (fun _ _ _ => fun _ _ => none) (fun _ => fun _ _ => none) (fun _ => fun _ _ => none) (fun _ _ => none) (fun _ _ _ _ => fun _ _ => none) (fun _ _ _ _ => fun _ _ => none) (fun _ _ => fun _ _ => none) (fun _ _ => fun _ _ => none) (fun l _ => fun n σ => resP (nthZ l n) σ) PUnit.unit (fun _ _ _ _ => PUnit.unit) v n σ
theorem exZ_eq (n : Nat) (x : X) (τ : T) (σ : Mem) : exZ n (x.ev τ) σ = eP σ (xEx n x τ) := by
  unfold xEx
  cases x.ev τ <;> first | rfl | skip
  show resP (nthZ _ n) σ = _
  rw [nthZ_eq, resP_eq]
def mxA (b : AV) (k : IntKind) (a : Int) (σ : Mem) : Option (AV × Mem) := AV.rec (motive_1 := fun _ => IntKind → Int → Mem → Option (AV × Mem)) (motive_2 := fun _ => PUnit) (fun _ => fun _ _ _ => none) (fun k' b => fun k a σ => Bool.rec none (some (.i k (Bool.rec a b (ltIZ a b)), σ)) (eqKZ k k')) (fun _ _ => fun _ _ _ => none) (fun _ _ _ => none) (fun _ _ => fun _ _ _ => none) (fun _ _ _ => none) (fun _ _ _ _ => fun _ _ _ => none) (fun _ _ _ => none) (fun _ _ _ _ _ => fun _ _ _ => none) (fun _ _ _ => none) (fun _ _ _ => fun _ _ _ => none) (fun _ => fun _ _ _ => none) (fun _ => fun _ _ _ => none) (fun _ _ _ => none) (fun _ _ _ _ => fun _ _ _ => none) (fun _ _ _ _ => fun _ _ _ => none) (fun _ _ => fun _ _ _ => none) (fun _ _ => fun _ _ _ => none) (fun _ _ => fun _ _ _ => none) PUnit.unit (fun _ _ _ _ => PUnit.unit) b k a σ
def mxZ (a : AV) (y : X) (τ : T) (σ : Mem) : Option (AV × Mem) := AV.rec (motive_1 := fun _ => X → T → Mem → Option (AV × Mem)) (motive_2 := fun _ => PUnit) (fun _ => fun _ _ _ => none) (fun k a => fun y τ σ => mxA (evX y τ) k a σ) (fun _ _ => fun _ _ _ => none) (fun _ _ _ => none) (fun _ _ => fun _ _ _ => none) (fun _ _ _ => none) (fun _ _ _ _ => fun _ _ _ => none) (fun _ _ _ => none) (fun _ _ _ _ _ => fun _ _ _ => none) (fun _ _ _ => none) (fun _ _ _ => fun _ _ _ => none) (fun _ => fun _ _ _ => none) (fun _ => fun _ _ _ => none) (fun _ _ _ => none) (fun _ _ _ _ => fun _ _ _ => none) (fun _ _ _ _ => fun _ _ _ => none) (fun _ _ => fun _ _ _ => none) (fun _ _ => fun _ _ _ => none) (fun _ _ => fun _ _ _ => none) PUnit.unit (fun _ _ _ _ => PUnit.unit) a y τ σ
def mnA (b : AV) (k : IntKind) (a : Int) (σ : Mem) : Option (AV × Mem) := AV.rec (motive_1 := fun _ => IntKind → Int → Mem → Option (AV × Mem)) (motive_2 := fun _ => PUnit) (fun _ => fun _ _ _ => none) (fun k' b => fun k a σ => Bool.rec none (some (.i k (Bool.rec a b (ltIZ b a)), σ)) (eqKZ k k')) (fun _ _ => fun _ _ _ => none) (fun _ _ _ => none) (fun _ _ => fun _ _ _ => none) (fun _ _ _ => none) (fun _ _ _ _ => fun _ _ _ => none) (fun _ _ _ => none) (fun _ _ _ _ _ => fun _ _ _ => none) (fun _ _ _ => none) (fun _ _ _ => fun _ _ _ => none) (fun _ => fun _ _ _ => none) (fun _ => fun _ _ _ => none) (fun _ _ _ => none) (fun _ _ _ _ => fun _ _ _ => none) (fun _ _ _ _ => fun _ _ _ => none) (fun _ _ => fun _ _ _ => none) (fun _ _ => fun _ _ _ => none) (fun _ _ => fun _ _ _ => none) PUnit.unit (fun _ _ _ _ => PUnit.unit) b k a σ
def mnZ (a : AV) (y : X) (τ : T) (σ : Mem) : Option (AV × Mem) := AV.rec (motive_1 := fun _ => X → T → Mem → Option (AV × Mem)) (motive_2 := fun _ => PUnit) (fun _ => fun _ _ _ => none) (fun k a => fun y τ σ => mnA (evX y τ) k a σ) (fun _ _ => fun _ _ _ => none) (fun _ _ _ => none) (fun _ _ => fun _ _ _ => none) (fun _ _ _ => none) (fun _ _ _ _ => fun _ _ _ => none) (fun _ _ _ => none) (fun _ _ _ _ _ => fun _ _ _ => none) (fun _ _ _ => none) (fun _ _ _ => fun _ _ _ => none) (fun _ => fun _ _ _ => none) (fun _ => fun _ _ _ => none) (fun _ _ _ => none) (fun _ _ _ _ => fun _ _ _ => none) (fun _ _ _ _ => fun _ _ _ => none) (fun _ _ => fun _ _ _ => none) (fun _ _ => fun _ _ _ => none) (fun _ _ => fun _ _ _ => none) PUnit.unit (fun _ _ _ _ => PUnit.unit) a y τ σ
theorem mxZ_eq (x y : X) (τ : T) (σ : Mem) : mxZ (x.ev τ) y τ σ = eP σ (xMx x y τ) := by
  unfold xMx
  cases x.ev τ <;> first | rfl | skip
  rename_i k a
  show mxA (evX y τ) k a σ = _
  rw [evX_eq]
  cases y.ev τ <;> first | rfl | skip
  rename_i k' b
  simp only [mxA, eqKZ_eq, ltIZ_eq]
  cases eqK k k' <;> cases ltI a b <;> rfl
theorem mnZ_eq (x y : X) (τ : T) (σ : Mem) : mnZ (x.ev τ) y τ σ = eP σ (xMn x y τ) := by
  unfold xMn
  cases x.ev τ <;> first | rfl | skip
  rename_i k a
  show mnA (evX y τ) k a σ = _
  rw [evX_eq]
  cases y.ev τ <;> first | rfl | skip
  rename_i k' b
  simp only [mnA, eqKZ_eq, ltIZ_eq]
  cases eqK k k' <;> cases ltI b a <;> rfl
def flatZ : AV → Bool := AV.rec (motive_1 := fun _ => Bool) (motive_2 := fun _ => Bool) (fun _ => true) (fun _ _ => true) (fun _ _ => true) false (fun _ _ => false) false (fun _ _ _ _ => false) false (fun _ _ _ _ _ => false) true (fun _ _ ih => ih) (fun _ => true) (fun _ => false) true (fun _ _ _ _ => true) (fun _ _ _ _ => true) (fun _ ih => ih) (fun _ _ => false) (fun _ ih => ih) true (fun _ _ a b => andZ a b)
def flatsZ : List AV → Bool := List.rec true (fun v _ ih => andZ (flatZ v) ih)
theorem flats1 : ∀ l, flatZ (.tup l) = flatsZ l
  | [] => rfl
  | v :: l => by
    show andZ (flatZ v) (flatZ (.tup l)) = andZ (flatZ v) (flatsZ l)
    rw [flats1 l]
mutual
theorem flatZ_eq : ∀ v, flatZ v = v.flat
  | .b _ => rfl
  | .i _ _ => rfl
  | .s _ _ => rfl
  | .p0 => rfl
  | .p _ _ => rfl
  | .sl0 => rfl
  | .sl _ _ _ _ => rfl
  | .f0 => rfl
  | .f _ _ _ => rfl
  | .ni => rfl
  | .ifc _ v => flatZ_eq v
  | .m _ => rfl
  | .mp _ => rfl
  | .ifx => rfl
  | .mr _ _ _ _ => rfl
  | .fs _ _ _ _ => rfl
  | .sm l => by rw [show flatZ (.sm l) = flatZ (.tup l) from rfl, flats1 l, flatsZ_eq l]; rfl
  | .agg _ => rfl
  | .tup l => by rw [flats1 l, flatsZ_eq l]; rfl
theorem flatsZ_eq : ∀ l, flatsZ l = flats l
  | [] => rfl
  | v :: l => by
    show andZ (flatZ v) (flatsZ l) = (v.flat && flats l)
    rw [flatZ_eq v, flatsZ_eq l]
    cases v.flat <;> rfl
end
def cpR : Option (AV × Mem) → Mem → Option (AV × Mem) := Option.rec (motive := fun _ => Mem → Option (AV × Mem)) (fun _ => none) (fun p σ => Bool.rec none (some (p.1, σ)) (flatZ p.1))
def cpZ (f : Nat) (l : List AV) (call : CallA) (σ : Mem) : Option (AV × Mem) := Bool.rec (motive := fun _ => Nat → List AV → CallA → Mem → Option (AV × Mem)) (fun _ _ _ _ => none) (fun f l call σ => cpR (call f l mem0) σ) (flatsZ l) f l call σ
theorem cpZ_eq (call : CallA) (f : Nat) (l : List AV) (σ : Mem) : cpZ f l call σ = eCp call f l σ := by
  unfold cpZ eCp
  rw [flatsZ_eq]
  cases flats l with
  | false => rfl
  | true =>
    show cpR (call f l mem0) σ = (match call f l mem0 with | some (v, _) => if v.flat then some (v, σ) else none | none => none)
    cases call f l mem0 with
    | none => rfl
    | some p =>
      obtain ⟨v, s⟩ := p
      simp only [cpR, flatZ_eq]
      cases v.flat <;> rfl

/-- an operation. -/
def execZ : C → CallA → T → Mem → Option (AV × Mem) := C.rec (motive := fun _ => CallA → T → Mem → Option (AV × Mem))
  (fun x call τ σ => some (evX x τ, σ))
  (fun c a b call τ σ => pickZ (evX c τ) a b τ σ)
  (fun e z call τ σ => alZ e z σ)
  (fun e x call τ σ => alZ e (cellsZ (evX x τ)) σ)
  (fun z ps call τ σ => execA call (.bd z ps) τ σ)
  (fun e sz z len ps call τ σ => execA call (.bs e sz z len ps) τ σ)
  (fun n a call τ σ => ldZ n (evX a τ) σ)
  (fun n a x call τ σ => stZ n (evX a τ) x τ σ)
  (fun x call τ σ => ncZ (evX x τ) σ)
  (fun o x y call τ σ => resP (binZ o (evX x τ) (evX y τ)) σ)
  (fun g x y call τ σ => execA call (.be g x y) τ σ)
  (fun o x call τ σ => unZ o (evX x τ) σ)
  (fun k x call τ σ => execA call (.ci k x) τ σ)
  (fun e x call τ σ => execA call (.sb e x) τ σ)
  (fun x call τ σ => execA call (.bt x) τ σ)
  (fun x call τ σ => execA call (.cs x) τ σ)
  (fun f p q call τ σ => execA call (.mf f p q) τ σ)
  (fun x lo hi call τ σ => execA call (.ss x lo hi) τ σ)
  (fun sz x lo hi call τ σ => execA call (.sl sz x lo hi) τ σ)
  (fun off x call τ σ => faZ off (evX x τ) σ)
  (fun off n x call τ σ => execA call (.fd off n x) τ σ)
  (fun sz x i call τ σ => execA call (.ia sz x i) τ σ)
  (fun len sz x i call τ σ => execA call (.iq len sz x i) τ σ)
  (fun x i call τ σ => ixZ (evX x τ) i τ σ)
  (fun len sz g x i call τ σ => execA call (.iv len sz g x i) τ σ)
  (fun n x call τ σ => exZ n (evX x τ) σ)
  (fun f xs call τ σ => call f (evsZ xs τ) σ)
  (fun f xs call τ σ => cpZ f (evsZ xs τ) call σ)
  (fun x xs call τ σ => execA call (.cv x xs) τ σ)
  (fun e sz by_ s x call τ σ => execA call (.ap e sz by_ s x) τ σ)
  (fun x call τ σ => lnZ (evX x τ) σ)
  (fun x call τ σ => lmZ (evX x τ) σ)
  (fun x y call τ σ => mxZ (evX x τ) y τ σ)
  (fun x y call τ σ => mnZ (evX x τ) y τ σ)
  (fun g x y call τ σ => execA call (.pe g x y) τ σ)
  (fun g x y call τ σ => execA call (.ie g x y) τ σ)
  (fun x call τ σ => execA call (.pu x) τ σ)
  (fun es x call τ σ => execA call (.pf es x) τ σ)
  (fun x call τ σ => execA call (.id1 x) τ σ)
  (fun e s x call τ σ => execA call (.as_ e s x) τ σ)
  (fun x call τ σ => execA call (.sd x) τ σ)
  (fun e p n call τ σ => execA call (.us e p n) τ σ)
  (fun x call τ σ => execA call (.sm x) τ σ)
  (fun x call τ σ => execA call (.rg x) τ σ)
  (fun x call τ σ => execA call (.is x) τ σ)
  (fun e x call τ σ => execA call (.mz e x) τ σ)
  (fun x call τ σ => execA call (.cn x) τ σ)
  (fun x y call τ σ => execA call (.cy x y) τ σ)
  (fun t x call τ σ => execA call (.mi t x) τ σ)
  (fun t x call τ σ => execA call (.ta t x) τ σ)
  (fun x call τ σ => execA call (.pn x) τ σ)
  (fun x call τ σ => execA call (.nx x) τ σ)
  (fun g offs x y call τ σ => execA call (.se g offs x y) τ σ)
  (fun x y call τ σ => execA call (.xi x y) τ σ)
  (fun x y call τ σ => execA call (.xc x y) τ σ)
  (fun s x call τ σ => execA call (.az s x) τ σ)
  (fun e sz by_ z n c call τ σ => execA call (.mk e sz by_ z n c) τ σ)
  (fun  call τ σ => execA call (.mm) τ σ)
  (fun ok z m k call τ σ => execA call (.lk ok z m k) τ σ)
  (fun m k v call τ σ => execA call (.mu m k v) τ σ)
  (fun tbl x xs call τ σ => execA call (.ik tbl x xs) τ σ)
  (fun t z x call τ σ => execA call (.tk t z x) τ σ)
  (fun f xs call τ σ => execA call (.cq f xs) τ σ)
  (fun  call τ σ => execA call (.no) τ σ)
theorem execZ_eq (c : C) (call : CallA) (τ : T) (σ : Mem) : execZ c call τ σ = execA call c τ σ := by
  cases c with
  | mv x => simp only [execZ, evX_eq]; rfl
  | pick c a b => simp only [execZ, evX_eq]; exact pickZ_eq ..
  | al e z => exact alZ_eq ..
  | bx e x => simp only [execZ, evX_eq, cellsZ_eq]; exact bxZ_eq ..
  | ld n a => simp only [execZ, evX_eq]; exact ldZ_eq ..
  | st n a x => simp only [execZ, evX_eq]; exact stZ_eq ..
  | nc x => simp only [execZ, evX_eq]; exact ncZ_eq ..
  | bi o x y => simp only [execZ, evX_eq, binZ_eq, resP_eq]; rfl
  | un o x => simp only [execZ, evX_eq]; exact unZ_eq ..
  | fa off x => simp only [execZ, evX_eq]; exact faZ_eq ..
  | ix x i => simp only [execZ, evX_eq]; exact ixZ_eq ..
  | ex n x => simp only [execZ, evX_eq]; exact exZ_eq ..
  | cf f xs => simp only [execZ, evsZ_eq]; rfl
  | cp f xs => simp only [execZ, evsZ_eq]; exact cpZ_eq ..
  | ln x => simp only [execZ, evX_eq]; exact lnZ_eq ..
  | lm x => simp only [execZ, evX_eq]; exact lmZ_eq ..
  | mx x y => simp only [execZ, evX_eq]; exact mxZ_eq ..
  | mn x y => simp only [execZ, evX_eq]; exact mnZ_eq ..
  | _ => rfl
def wantZ (v : AV) (w : Bool) : Option Bool := AV.rec (motive_1 := fun _ => Bool → Option Bool) (motive_2 := fun _ => PUnit) (fun x => fun w => some (Bool.rec (notZ w) w x)) (fun _ _ => fun _ => none) (fun _ _ => fun _ => none) (fun _ => none) (fun _ _ => fun _ => none) (fun _ => none) (fun _ _ _ _ => fun _ => none) (fun _ => none) (fun _ _ _ _ _ => fun _ => none) (fun _ => none) (fun _ _ _ => fun _ => none) (fun _ => fun _ => none) (fun _ => fun _ => none) (fun _ => none) (fun _ _ _ _ => fun _ => none) (fun _ _ _ _ => fun _ => none) (fun _ _ => fun _ => none) (fun _ _ => fun _ => none) (fun l _ => fun _ => List.rec (some false) (fun _ _ _ => none) l) PUnit.unit (fun _ _ _ _ => PUnit.unit) v w
theorem wantZ_eq (v : AV) (w : Bool) : wantZ v w = wantV w v := by
  cases v with
  | b x => cases x <;> cases w <;> rfl
  | tup l => cases l <;> rfl
  | _ => rfl
def putZ (τ : T) (d : Option Nat) (v : AV) : T := Option.rec (motive := fun _ => T → AV → T) (fun τ _ => τ) (fun d τ v => setT (way30 d) τ (some v)) d τ v
theorem putZ_eq (τ : T) (d : Option Nat) (v : AV) : putZ τ d v = putA τ d v := by
  cases d with
  | none => rfl
  | some d => exact setT_eq 30 d τ (some v)
abbrev RunK := CallA → T → Mem → Option (T × Mem)
def stepZ : Option (AV × Mem) → Option Nat → RunK → CallA → T → Option (T × Mem) := Option.rec (motive := fun _ => Option Nat → RunK → CallA → T → Option (T × Mem)) (fun _ _ _ _ => none) (fun p d k call τ => Prod.rec (motive := fun _ => Option Nat → RunK → CallA → T → Option (T × Mem)) (fun v σ d k call τ => k call (putZ τ d v) σ) p d k call τ)
def gateZ : Option Bool → Option Nat → C → RunK → CallA → T → Mem → Option (T × Mem) := Option.rec (motive := fun _ => Option Nat → C → RunK → CallA → T → Mem → Option (T × Mem)) (fun _ _ _ _ _ _ => none) (fun b => Bool.rec (motive := fun _ => Option Nat → C → RunK → CallA → T → Mem → Option (T × Mem)) (fun d _ k call τ σ => k call (putZ τ d undefA) σ) (fun d c k call τ σ => stepZ (execZ c call τ σ) d k call τ) b)
def guardZ : Option (Nat × Bool) → Option Nat → C → RunK → CallA → T → Mem → Option (T × Mem) := Option.rec (motive := fun _ => Option Nat → C → RunK → CallA → T → Mem → Option (T × Mem)) (fun d c k call τ σ => stepZ (execZ c call τ σ) d k call τ) (fun p d c k call τ σ => Prod.rec (motive := fun _ => Option Nat → C → RunK → CallA → T → Mem → Option (T × Mem)) (fun t w d c k call τ σ => gateZ (wantZ (orU (getT τ (wayZ t))) w) d c k call τ σ) p d c k call τ σ)
def runZ : List O → RunK := List.rec (motive := fun _ => RunK) (fun _ τ σ => some (τ, σ)) (fun o _ ih call τ σ => O.rec (motive := fun _ => RunK → CallA → T → Mem → Option (T × Mem)) (fun d g c _ k call τ σ => guardZ g d c k call τ σ) o ih call τ σ)
theorem wantA_eq (t : Nat) (w : Bool) (τ : T) : wantZ (orU (getT τ (wayZ t))) w = wantA (some (t, w)) τ := by
  have : orU (getT τ (wayZ t)) = (X.t t).ev τ := by rw [← evX_eq]; rfl
  rw [this, wantZ_eq]; rfl
theorem runZ_eq (call : CallA) : ∀ l τ σ, runZ l call τ σ = runOps call l τ σ
  | [], τ, σ => rfl
  | ⟨d, g, c, rd⟩ :: r, τ, σ => by
    have hs : ∀ q : Option (AV × Mem), stepZ q d (runZ r) call τ = (match q with | some (v, σ) => runOps call r (putA τ d v) σ | none => none) := by
      intro q
      cases q with
      | none => rfl
      | some p =>
        obtain ⟨v, s⟩ := p
        show runZ r call (putZ τ d v) s = _
        rw [putZ_eq, runZ_eq call r]
    cases g with
    | none =>
      show stepZ (execZ c call τ σ) d (runZ r) call τ = _
      rw [hs, execZ_eq]
      rfl
    | some p =>
      obtain ⟨t, w⟩ := p
      show gateZ (wantZ (orU (getT τ (wayZ t))) w) d c (runZ r) call τ σ = _
      rw [wantA_eq]
      simp only [runOps]
      cases wantA (some (t, w)) τ with
      | none => rfl
      | some b =>
        cases b with
        | false =>
          show runZ r call (putZ τ d undefA) σ = _
          rw [putZ_eq, runZ_eq call r]
        | true =>
          show stepZ (execZ c call τ σ) d (runZ r) call τ = _
          rw [hs, execZ_eq]
          rfl

/-! ### Regions that draw -/
def actsZ : C → Bool := C.rec (motive := fun _ => Bool)
  (fun x => false)
  (fun c a b => false)
  (fun e z => true)
  (fun e x => true)
  (fun z ps => false)
  (fun e sz z len ps => true)
  (fun n a => false)
  (fun n a x => true)
  (fun x => false)
  (fun o x y => false)
  (fun g x y => false)
  (fun o x => false)
  (fun k x => false)
  (fun e x => true)
  (fun x => false)
  (fun x => false)
  (fun f p q => false)
  (fun x lo hi => false)
  (fun sz x lo hi => false)
  (fun off x => false)
  (fun off n x => false)
  (fun sz x i => false)
  (fun len sz x i => false)
  (fun x i => false)
  (fun len sz g x i => false)
  (fun n x => false)
  (fun f xs => true)
  (fun f xs => false)
  (fun x xs => true)
  (fun e sz by_ s x => true)
  (fun x => false)
  (fun x => false)
  (fun x y => false)
  (fun x y => false)
  (fun g x y => false)
  (fun g x y => false)
  (fun x => false)
  (fun es x => false)
  (fun x => false)
  (fun e s x => true)
  (fun x => false)
  (fun e p n => true)
  (fun x => true)
  (fun x => true)
  (fun x => false)
  (fun e x => true)
  (fun x => false)
  (fun x y => false)
  (fun t x => false)
  (fun t x => false)
  (fun x => false)
  (fun x => true)
  (fun g offs x y => false)
  (fun x y => false)
  (fun x y => false)
  (fun s x => false)
  (fun e sz by_ z n c => true)
  (true)
  (fun ok z m k => false)
  (fun m k v => true)
  (fun tbl x xs => true)
  (fun t z x => false)
  (fun f xs => false)
  (false)
theorem actsZ_eq (c : C) : actsZ c = c.acts := by cases c <;> rfl
abbrev DrawK := CallA → T → List Mem → Nat → List Rd → Option (T × Mem)
def drawEnd (τ : T) (h : List Mem) (k : Nat) (rs : List Rd) : Option (T × Mem) := if allStable h k rs then (match h with | σ :: _ => some (τ, σ) | [] => none) else none
def noteZ (c : C) (rd : Option (Nat × Nat)) (τ : T) (v : AV) (rs : List Rd) : List Rd := Option.rec (motive := fun _ => C → T → AV → List Rd → List Rd) (fun _ _ _ rs => rs) (fun p c τ v rs => ⟨c, τ, v, p.1, p.2⟩ :: rs) rd c τ v rs
def dPut (a : Bool) (c : C) (rd : Option (Nat × Nat)) (d : Option Nat) (v : AV) (σ : Mem) (K : DrawK) (call : CallA) (τ : T) (h : List Mem) (k : Nat) (rs : List Rd) : Option (T × Mem) :=
  Bool.rec (K call (putZ τ d v) h k (noteZ c rd τ v rs)) (K call (putZ τ d v) (σ :: h) (Nat.succ k) rs) a
def dStep : Option (AV × Mem) → C → Option (Nat × Nat) → Option Nat → DrawK → CallA → T → List Mem → Nat → List Rd → Option (T × Mem) := Option.rec (motive := fun _ => C → Option (Nat × Nat) → Option Nat → DrawK → CallA → T → List Mem → Nat → List Rd → Option (T × Mem)) (fun _ _ _ _ _ _ _ _ _ => none) (fun p c rd d K call τ h k rs => dPut (actsZ c) c rd d p.1 p.2 K call τ h k rs)
def dOff (a : Bool) (d : Option Nat) (K : DrawK) (call : CallA) (τ : T) (σ : Mem) (h : List Mem) (k : Nat) (rs : List Rd) : Option (T × Mem) :=
  Bool.rec (K call (putZ τ d undefA) h k rs) (K call (putZ τ d undefA) (σ :: h) (Nat.succ k) rs) a
def dGate (w : Option Bool) (c : C) (rd : Option (Nat × Nat)) (d : Option Nat) (K : DrawK) (call : CallA) (τ : T) (σ : Mem) (h : List Mem) (k : Nat) (rs : List Rd) : Option (T × Mem) :=
  Option.rec none (fun b => Bool.rec (dOff (actsZ c) d K call τ σ h k rs) (dStep (execZ c call τ σ) c rd d K call τ h k rs) b) w
def wantG (g : Option (Nat × Bool)) (τ : T) : Option Bool := Option.rec (motive := fun _ => T → Option Bool) (fun _ => some true) (fun p τ => wantZ (orU (getT τ (wayZ p.1))) p.2) g τ
theorem wantG_eq (g : Option (Nat × Bool)) (τ : T) : wantG g τ = wantA g τ := by
  cases g with
  | none => rfl
  | some p => exact wantA_eq p.1 p.2 τ
def drawZ : List O → DrawK := List.rec (motive := fun _ => DrawK) (fun _ τ h k rs => drawEnd τ h k rs) (fun o _ ih call τ h k rs => List.rec (motive := fun _ => O → DrawK → CallA → T → List Mem → Nat → List Rd → Option (T × Mem)) (fun _ _ _ _ _ _ _ => none) (fun σ _ _ o ih call τ h k rs => dGate (wantG o.g τ) o.c o.rd o.d ih call τ σ h k rs) h o ih call τ h k rs)
theorem drawZ_eq (call : CallA) : ∀ l τ h k rs, drawZ l call τ h k rs = runDraw call l τ h k rs
  | [], τ, h, k, rs => rfl
  | o :: r, τ, [], k, rs => rfl
  | o :: r, τ, σ :: h, k, rs => by
    show dGate (wantG o.g τ) o.c o.rd o.d (drawZ r) call τ σ (σ :: h) k rs = _
    rw [wantG_eq]
    simp only [runDraw]
    cases wantA o.g τ with
    | none => rfl
    | some b =>
      cases b with
      | false =>
        show dOff (actsZ o.c) o.d (drawZ r) call τ σ (σ :: h) k rs = _
        unfold dOff
        rw [actsZ_eq, putZ_eq, drawZ_eq call r, drawZ_eq call r]
        cases o.c.acts <;> rfl
      | true =>
        show dStep (execZ o.c call τ σ) o.c o.rd o.d (drawZ r) call τ (σ :: h) k rs = _
        rw [execZ_eq]
        cases execA call o.c τ σ with
        | none => rfl
        | some p =>
          obtain ⟨v, s⟩ := p
          show dPut (actsZ o.c) o.c o.rd o.d v s (drawZ r) call τ (σ :: h) k rs = _
          unfold dPut
          rw [actsZ_eq, putZ_eq, drawZ_eq call r, drawZ_eq call r]
          have : noteZ o.c o.rd τ v rs = noteRd o τ v rs := by
            unfold noteRd
            cases o.rd <;> rfl
          rw [this]
          cases o.c.acts <;> rfl

/-! ### Code and calls -/
abbrev KA := T → Mem → St
def nrmZ : Option (T × Mem) → St := Option.rec none (fun p => some (.nrm, p))
def seqE : E → T × Mem → KA → St := E.rec (motive := fun _ => T × Mem → KA → St) (fun p k => k p.1 p.2) (fun id p _ => some (.exit id, p)) (fun p _ => some (.ret, p))
def seqZ : St → KA → St := Option.rec (motive := fun _ => KA → St) (fun _ => none) (fun p k => seqE p.1 p.2 k)
def condZ (c : AV) (a b : KA) (τ : T) (σ : Mem) : St := AV.rec (motive_1 := fun _ => KA → KA → T → Mem → St) (motive_2 := fun _ => PUnit) (fun x => fun a b τ σ => Bool.rec (b τ σ) (a τ σ) x) (fun _ _ => fun _ _ _ _ => none) (fun _ _ => fun _ _ _ _ => none) (fun _ _ _ _ => none) (fun _ _ => fun _ _ _ _ => none) (fun _ _ _ _ => none) (fun _ _ _ _ => fun _ _ _ _ => none) (fun _ _ _ _ => none) (fun _ _ _ _ _ => fun _ _ _ _ => none) (fun _ _ _ _ => none) (fun _ _ _ => fun _ _ _ _ => none) (fun _ => fun _ _ _ _ => none) (fun _ => fun _ _ _ _ => none) (fun _ _ _ _ => none) (fun _ _ _ _ => fun _ _ _ _ => none) (fun _ _ _ _ => fun _ _ _ _ => none) (fun _ _ => fun _ _ _ _ => none) (fun _ _ => fun _ _ _ _ => none) (fun _ _ => fun _ _ _ _ => none) PUnit.unit (fun _ _ _ _ => PUnit.unit) c a b τ σ
def blockE : E → T × Mem → Nat → St := E.rec (motive := fun _ => T × Mem → Nat → St) (fun p _ => some (.nrm, p)) (fun k p id => Bool.rec (some (.exit k, p)) (some (.nrm, p)) (Nat.beq k id)) (fun p _ => some (.ret, p))
def blockZ : St → Nat → St := Option.rec (motive := fun _ => Nat → St) (fun _ => none) (fun p id => blockE p.1 p.2 id)
def iterZ : Nat → KA → KA := Nat.rec (motive := fun _ => KA → KA) (fun _ _ _ => none) (fun _ ih body τ σ => seqZ (body τ σ) (ih body))
theorem iterZ_eq (body : KA) : ∀ n τ σ, iterZ n body τ σ = iter body n τ σ
  | 0, _, _ => rfl
  | n + 1, τ, σ => by
    show seqZ (body τ σ) (iterZ n body) = _
    simp only [iter]
    rcases body τ σ with _ | ⟨e, τ', σ'⟩
    · rfl
    · cases e with
      | nrm => exact iterZ_eq body n τ' σ'
      | exit id => rfl
      | ret => rfl
def sepO (f : Bool) (p : T × Mem) : St := Bool.rec none (some (.nrm, p)) f
def frZ (fa : Option X) (us : List X) : Option (T × Mem) → St := Option.rec none (fun p => sepO (sepA p.1 fa us) p)
def evKZ : K → CallA → Nat → T → Mem → St := K.rec (motive := fun _ => CallA → Nat → T → Mem → St)
  (fun _ _ τ σ => some (.nrm, τ, σ))
  (fun ops call _ τ σ => nrmZ (runZ ops call τ σ))
  (fun ops call _ τ σ => nrmZ (drawZ ops call τ [σ] (nat_lit 0) []))
  (fun ops fa us call _ τ σ => frZ fa us (drawZ ops call τ [σ] (nat_lit 0) []))
  (fun _ _ iha ihb call L τ σ => seqZ (iha call L τ σ) (ihb call L))
  (fun c _ _ iha ihb call L τ σ => condZ (evX c τ) (iha call L) (ihb call L) τ σ)
  (fun id _ ih call L τ σ => blockZ (ih call L τ σ) id)
  (fun _ ih call L τ σ => iterZ L (ih call L) τ σ)
  (fun id _ _ τ σ => some (.exit id, τ, σ))
  (fun _ _ τ σ => some (.ret, τ, σ))
  (fun _ _ _ _ => none)
theorem evKZ_eq (call : CallA) (L : Nat) : ∀ k τ σ, evKZ k call L τ σ = evK call L k τ σ
  | .skip, τ, σ => rfl
  | .reg ops, τ, σ => by
    show nrmZ (runZ ops call τ σ) = _
    rw [runZ_eq]
    simp only [evK]
    rcases runOps call ops τ σ with _ | ⟨a, b⟩ <;> rfl
  | .dreg ops, τ, σ => by
    show nrmZ (drawZ ops call τ [σ] 0 []) = _
    rw [drawZ_eq]
    simp only [evK]
    rcases runDraw call ops τ [σ] 0 [] with _ | ⟨a, b⟩ <;> rfl
  | .fr ops fa us, τ, σ => by
    show frZ fa us (drawZ ops call τ [σ] 0 []) = _
    rw [drawZ_eq]
    simp only [evK]
    rcases runDraw call ops τ [σ] 0 [] with _ | ⟨a, b⟩
    · rfl
    · show sepO (sepA a fa us) (a, b) = (if sepA a fa us then some (.nrm, a, b) else none)
      cases sepA a fa us <;> rfl
  | .seq a b, τ, σ => by
    show seqZ (evKZ a call L τ σ) (evKZ b call L) = _
    rw [evKZ_eq call L a]
    simp only [evK]
    rcases evK call L a τ σ with _ | ⟨e, τ', σ'⟩
    · rfl
    · cases e with
      | nrm => exact evKZ_eq call L b τ' σ'
      | exit id => rfl
      | ret => rfl
  | .cond c a b, τ, σ => by
    show condZ (evX c τ) (evKZ a call L) (evKZ b call L) τ σ = _
    rw [evX_eq]
    simp only [evK]
    cases c.ev τ with
    | b x =>
      cases x with
      | false => exact evKZ_eq call L b τ σ
      | true => exact evKZ_eq call L a τ σ
    | _ => rfl
  | .block id c, τ, σ => by
    show blockZ (evKZ c call L τ σ) id = _
    rw [evKZ_eq call L c]
    simp only [evK]
    rcases evK call L c τ σ with _ | ⟨e, τ', σ'⟩
    · rfl
    · cases e with
      | nrm => rfl
      | exit k =>
        show Bool.rec (motive := fun _ => St) (some (.exit k, τ', σ')) (some (.nrm, τ', σ')) (Nat.beq k id) = (if Nat.beq k id then _ else _)
        cases Nat.beq k id <;> rfl
      | ret => rfl
  | .loop c, τ, σ => by
    show iterZ L (evKZ c call L) τ σ = _
    have : evKZ c call L = evK call L c := by funext τ σ; exact evKZ_eq call L c τ σ
    rw [this, iterZ_eq]; rfl
  | .exit id, τ, σ => rfl
  | .ret, τ, σ => rfl
  | .no, τ, σ => rfl
def consO : Option AV → Option (List AV) → Option (List AV) := Option.rec (motive := fun _ => Option (List AV) → Option (List AV)) (fun _ => none) (fun v l => takeC l v)
def ldV (n : Option Nat) (v : AV) (σ : Mem) : Option AV := AV.rec (motive_1 := fun _ => Option Nat → Mem → Option AV) (motive_2 := fun _ => PUnit) (fun _ => fun _ _ => none) (fun _ _ => fun _ _ => none) (fun _ _ => fun _ _ => none) (fun _ _ => none) (fun b o => fun n σ => ldM n b o σ) (fun _ _ => none) (fun _ _ _ _ => fun _ _ => none) (fun _ _ => none) (fun _ _ _ _ _ => fun _ _ => none) (fun _ _ => none) (fun _ _ _ => fun _ _ => none) (fun _ => fun _ _ => none) (fun _ => fun _ _ => none) (fun _ _ => none) (fun _ _ _ _ => fun _ _ => none) (fun _ _ _ _ => fun _ _ => none) (fun _ _ => fun _ _ => none) (fun _ _ => fun _ _ => none) (fun _ _ => fun _ _ => none) PUnit.unit (fun _ _ _ _ => PUnit.unit) v n σ
def resZ : List RV0 → T → Mem → Option (List AV) := List.rec (motive := fun _ => T → Mem → Option (List AV)) (fun _ _ => some []) (fun r _ ih τ σ => RV0.rec (motive := fun _ => (T → Mem → Option (List AV)) → T → Mem → Option (List AV)) (fun n ih τ σ => takeC (ih τ σ) (orU (getT τ (wayZ n)))) (fun a n ih τ σ => consO (ldV n (orU (getT τ (wayZ a))) σ) (ih τ σ)) r ih τ σ)
theorem orU_eq (n : Nat) (τ : T) : orU (getT τ (wayZ n)) = (X.t n).ev τ := by rw [← evX_eq]; rfl
theorem resZ_eq (τ : T) (σ : Mem) : ∀ l, resZ l τ σ = resA τ σ l
  | [] => rfl
  | .t n :: r => by
    show takeC (resZ r τ σ) (orU (getT τ (wayZ n))) = _
    rw [resZ_eq τ σ r, orU_eq]
    simp only [resA]
    cases resA τ σ r <;> rfl
  | .c a n :: r => by
    show consO (ldV n (orU (getT τ (wayZ a))) σ) (resZ r τ σ) = _
    rw [resZ_eq τ σ r, orU_eq]
    have : ldV n ((X.t a).ev τ) σ = pureA (.ld n (.t a)) τ σ := by
      simp only [pureA, xLd]
      cases (X.t a).ev τ <;> first | rfl | exact ldM_eq ..
    rw [this]
    simp only [resA]
    cases pureA (.ld n (.t a)) τ σ <;> cases resA τ σ r <;> rfl
def lenZ : List AV → Nat := List.rec (nat_lit 0) (fun _ _ ih => Nat.succ ih)
theorem lenZ_eq : ∀ (l : List AV) k, lenL l k = Nat.add (lenZ l) k
  | [], k => by simp only [lenL]; exact (Nat.zero_add k).symm
  | _ :: r, k => by
    simp only [lenL]
    rw [lenZ_eq r]
    show lenZ r + (k + 1) = (lenZ r + 1) + k
    omega
def argsZ : List AV → Nat → T → T := List.rec (motive := fun _ => Nat → T → T) (fun _ τ => τ) (fun v _ ih k τ => ih (Nat.succ k) (setT (way30 k) τ (some v)))
theorem argsZ_eq : ∀ l k τ, argsZ l k τ = argsA l k τ
  | [], _, _ => rfl
  | v :: r, k, τ => by
    show argsZ r (k + 1) (setT (pthZ 30 k) τ (some v)) = _
    rw [argsZ_eq r, setT_eq]; rfl
def tupZ : List AV → AV := List.rec (.tup []) (fun v r _ => List.rec (motive := fun _ => AV → AV) (fun v => v) (fun u r _ v => .tup (v :: u :: r)) r v)
theorem tupZ_eq (l : List AV) : tupZ l = tupA l := by rcases l with _ | ⟨_, _ | ⟨_, _⟩⟩ <;> rfl
def resE : Option (List AV) → Mem → Option (AV × Mem) := Option.rec (motive := fun _ => Mem → Option (AV × Mem)) (fun _ => none) (fun l σ => some (tupZ l, σ))
def endE : E → List RV0 → T → Mem → Option (AV × Mem) := E.rec (motive := fun _ => List RV0 → T → Mem → Option (AV × Mem)) (fun r τ σ => resE (resZ r τ σ) σ) (fun _ _ _ _ => none) (fun r τ σ => resE (resZ r τ σ) σ)
def endZ : St → List RV0 → Option (AV × Mem) := Option.rec (motive := fun _ => List RV0 → Option (AV × Mem)) (fun _ => none) (fun p r => endE p.1 r p.2.1 p.2.2)
def bodyZ (g : F) (args : List AV) (call : CallA) (L : Nat) (σ : Mem) : Option (AV × Mem) := F.rec (motive := fun _ => List AV → CallA → Nat → Mem → Option (AV × Mem)) (fun nt r k args call L σ => Bool.rec none (endZ (evKZ k call L (argsZ args (nat_lit 0) .e) σ) r) (Nat.ble (lenZ args) nt)) g args call L σ
def funcZ : Option F → List AV → CallA → Nat → Mem → Option (AV × Mem) := Option.rec (motive := fun _ => List AV → CallA → Nat → Mem → Option (AV × Mem)) (fun _ _ _ _ => none) (fun g args call L σ => bodyZ g args call L σ)
def orcZ : Option AV → (Nat → Option F) → Nat → List AV → CallA → Nat → Mem → Option (AV × Mem) := Option.rec (motive := fun _ => (Nat → Option F) → Nat → List AV → CallA → Nat → Mem → Option (AV × Mem)) (fun fs f args call L σ => funcZ (fs f) args call L σ) (fun v _ _ _ _ _ σ => some (v, σ))
def evZ : Nat → (Nat → Option F) → (Nat → List AV → Option AV) → Nat → CallA := Nat.rec (motive := fun _ => (Nat → Option F) → (Nat → List AV → Option AV) → Nat → CallA) (fun _ _ _ _ _ _ => none) (fun _ ih fs orc L f args σ => orcZ (orc f args) fs f args (ih fs orc L) L σ)
theorem evZ_eq (fs : Nat → Option F) (orc : Nat → List AV → Option AV) (L : Nat) : ∀ n, evZ n fs orc L = evF fs orc L n
  | 0 => rfl
  | n + 1 => by
    funext f args σ
    show orcZ (orc f args) fs f args (evZ n fs orc L) L σ = _
    rw [evZ_eq fs orc L n]
    simp only [evF]
    cases orc f args with
    | some v => rfl
    | none =>
      show funcZ (fs f) args (evF fs orc L n) L σ = _
      cases fs f with
      | none => rfl
      | some g =>
        obtain ⟨nt, r, k⟩ := g
        show Bool.rec (motive := fun _ => Option (AV × Mem)) none (endZ (evKZ k (evF fs orc L n) L (argsZ args 0 .e) σ) r) (Nat.ble (lenZ args) nt) = _
        simp only [lenZ_eq args 0, argsZ_eq, evKZ_eq]
        show _ = (if Nat.ble (lenZ args) nt then _ else none)
        cases Nat.ble (lenZ args) nt with
        | false => rfl
        | true =>
          rcases evK (evF fs orc L n) L k (argsA args 0 .e) σ with _ | ⟨e, τ', σ'⟩
          · rfl
          · have hr : resE (resZ r τ' σ') σ' = (match resA τ' σ' r with | some l => some (tupA l, σ') | none => none) := by
              rw [resZ_eq]
              cases resA τ' σ' r with
              | none => rfl
              | some l => exact congrArg (fun v => some (v, σ')) (tupZ_eq l)
            cases e with
            | nrm => exact hr
            | exit id => rfl
            | ret => exact hr
end
section
variable {P : Program} {μ : Mu}
/-- **A closed run**, by the evaluator of recursors. -/
theorem run_okZ (hμ : Marks μ) {orc : Nat → List AV → Option AV} (horc : OrcOK P μ orc) (hmix : P.follows .mixedOrders = true) {fs : Nat → Option F} (hfs : ∀ f g, fs f = some g → fsOf P f = some g) {L n f : Nat} {args : List AV} {x : AV} {σ' : Mem} (h : evZ n fs orc L f args mem0 = some (x, σ')) (w : World) (hw : Held μ w) (vs : List Value) (hl : RL μ j0 args vs) :
    Calls P f vs.toArray w fun e w' => ∃ (j' : J) (v : Value), e = .returned v ∧ RV μ j' x v ∧ Rel μ (· < w.heap.size) w j' σ' w' := by
  rw [evZ_eq] at h
  exact run_okF hμ hfs horc hmix h w hw vs hl
/-- a table of functions. -/
noncomputable def look : List (Nat × F) → Nat → Option F := List.rec (motive := fun _ => Nat → Option F) (fun _ => none) (fun p _ ih f => Bool.rec (ih f) (some p.2) (Nat.beq p.1 f))
def TabOK (P : Program) : List (Nat × F) → Prop
  | [] => True
  | p :: r => fsOf P p.1 = some p.2 ∧ TabOK P r
theorem look_ok : ∀ (l : List (Nat × F)), TabOK P l → ∀ f g, look l f = some g → fsOf P f = some g
  | [], _, _, _, h => by cases h
  | p :: r, hl, f, g, h => by
    have h' : Bool.rec (motive := fun _ => Option F) (look r f) (some p.2) (Nat.beq p.1 f) = some g := h
    cases e : Nat.beq p.1 f with
    | false => rw [e] at h'; exact look_ok r hl.2 f g h'
    | true =>
      rw [e] at h'
      cases h'
      rw [← Nat.eq_of_beq_eq_true e]
      exact hl.1
/-- a table of functions, as a tree by numbers. -/
noncomputable def getF : Tr F → Pth → Option F := Tr.rec (motive := fun _ => Pth → Option F) (fun _ => none) (fun v _ _ ihl ihr p => Pth.rec (motive := fun _ => Option F → (Pth → Option F) → (Pth → Option F) → Option F) (fun v _ _ => v) (fun _ _ _ => none) (fun q _ _ ihl _ => ihl q) (fun q _ _ _ ihr => ihr q) p v ihl ihr)
theorem getF_eq : ∀ (f k : Nat) (t : Tr F), k < f → getF t (pthZ f k) = t.get k
  | 0, _, _, h => absurd h (by omega)
  | f + 1, 0, .e, _ => rfl
  | f + 1, 0, .n v l r, _ => rfl
  | f + 1, m + 1, .e, _ => rfl
  | f + 1, m + 1, .n v l r, h => by
    have hd : m / 2 < f := by omega
    have hl := getF_eq f (m / 2) l hd
    have hr := getF_eq f (m / 2) r hd
    show getF (.n v l r) (Bool.rec (Pth.z (pthZ f (m / 2))) (Pth.l (pthZ f (m / 2))) (Nat.beq (m % 2) 0)) = (if m % 2 == 0 then l.get (m / 2) else r.get (m / 2))
    by_cases e : m % 2 = 0
    · have e1 : Nat.beq (m % 2) 0 = true := by simpa using e
      rw [e1, if_pos (by simpa using e)]; exact hl
    · have e1 : Nat.beq (m % 2) 0 = false := Bool.eq_false_iff.mpr fun h => e (Nat.eq_of_beq_eq_true h)
      rw [e1, if_neg (by simpa using e)]; exact hr
noncomputable def lookT (t : Tr F) (f : Nat) : Option F := getF t (wayZ f)
def TrOK (P : Program) : Tr F → Nat → Nat → Prop
  | .e, _, _ => True
  | .n v l r, a, b => (∀ g, v = some g → fsOf P a = some g) ∧ TrOK P l (a + b) (2 * b) ∧ TrOK P r (a + 2 * b) (2 * b)
theorem TrOK.get : ∀ {t : Tr F} {a b : Nat}, TrOK P t a b → ∀ k g, t.get k = some g → fsOf P (a + b * k) = some g
  | .e, _, _, _, k, g, h => by cases k <;> cases h
  | .n v l r, a, b, hk, 0, g, h => hk.1 g h
  | .n v l r, a, b, hk, m + 1, g, h => by
    have h' : (if m % 2 == 0 then l.get (m / 2) else r.get (m / 2)) = some g := h
    split at h'
    · rename_i h2
      have h3 := TrOK.get hk.2.1 (m / 2) g h'
      have h4 : m % 2 = 0 := by simpa using h2
      obtain ⟨q, rfl⟩ : ∃ q, m = 2 * q := ⟨m / 2, by omega⟩
      rw [Nat.mul_div_cancel_left q (by decide : 0 < 2)] at h3
      have e1 : a + b + 2 * b * q = a + b * (2 * q + 1) := by rw [Nat.mul_add, Nat.mul_one, Nat.mul_comm 2 b, Nat.mul_assoc]; omega
      rwa [e1] at h3
    · rename_i h2
      have h3 := TrOK.get hk.2.2 (m / 2) g h'
      have h4 : ¬ m % 2 = 0 := by simpa using h2
      obtain ⟨q, rfl⟩ : ∃ q, m = 2 * q + 1 := ⟨m / 2, by omega⟩
      rw [show (2 * q + 1) / 2 = q by omega] at h3
      have e1 : a + 2 * b + 2 * b * q = a + b * (2 * q + 1 + 1) := by
        rw [show 2 * q + 1 + 1 = 2 + 2 * q by omega, Nat.mul_add, Nat.mul_comm 2 b, Nat.mul_assoc]; omega
      rwa [e1] at h3
theorem lookT_ok {t : Tr F} (ht : TrOK P t 0 1) (f : Nat) (g : F) (h : lookT t f = some g) : fsOf P f = some g := by
  have h' : getF t (pthZ (f + 1) f) = some g := h
  rw [getF_eq _ _ _ (Nat.lt_succ_self f)] at h'
  have := ht.get f g h'
  rwa [Nat.zero_add, Nat.one_mul] at this
theorem TrOK.E {a b : Nat} : TrOK P .e a b := trivial
theorem TrOK.S {a b : Nat} {g : F} {l r : Tr F} (h : fsOf P a = some g) (hl : TrOK P l (a + b) (2 * b)) (hr : TrOK P r (a + 2 * b) (2 * b)) : TrOK P (.n (some g) l r) a b :=
  ⟨fun g' h' => (by cases h'; exact h), hl, hr⟩
theorem TrOK.N {a b : Nat} {l r : Tr F} (hl : TrOK P l (a + b) (2 * b)) (hr : TrOK P r (a + 2 * b) (2 * b)) : TrOK P (.n none l r) a b :=
  ⟨fun g' h' => (by cases h'), hl, hr⟩
theorem TabOK.app : ∀ {l m : List (Nat × F)}, TabOK P l → TabOK P m → TabOK P (l ++ m)
  | [], _, _, h => h
  | _ :: _, _, h, h' => ⟨h.1, TabOK.app h.2 h'⟩
end
end Go.Proofs.YtpflpjkbiopmpaaGreatDoor.Ev
