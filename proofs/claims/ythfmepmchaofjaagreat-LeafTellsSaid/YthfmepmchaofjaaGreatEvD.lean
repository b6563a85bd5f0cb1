/-
The operations of the small language that leave memory as it is are the model's. No program is named here.
-/
import Derived.Test.YthfmepmchaofjaaGreatEvB
import Derived.Test.YthfmepmchaofjaaGreatEvC
import Derived.Test.YthfmepmchaofjaaGreatMem
set_option linter.all false
namespace Go.Proofs.YthfmepmchaofjaaGreat.Ev
noncomputable section
open Go Go.RowKit
section
variable {μ : Mu} {j : J}
theorem jDj : ∀ {v : Value} {x : AV}, jQf v = some x → RV μ j x v ∧ x.one = true := by
 intro v x h
 unfold jQf at h
 split at h <;> first | (cases h; done) | (simp only [Option.some.injEq] at h; subst h; exact ⟨rfl, rfl⟩) | (simp only [Option.some.injEq] at h; subst h; exact ⟨.inl ⟨rfl, rfl⟩, rfl⟩) | (rw [gA] at h; simp only [Option.some.injEq] at h; subst h; exact ⟨⟨_, rfl, by simp, rfl⟩, rfl⟩)
theorem eY : ∀ {l : List Value} {x : List AV}, jVa l = some x → RL μ j x l ∧ jT x = true
 | [], x, h => by cases h; exact ⟨rfl, rfl⟩
 | v :: r, x, h => by
  simp only [jVa] at h
  split at h
  ·rename_i a b ha hb
   cases h
   obtain ⟨h1, h2⟩ := jDj (μ := μ) (j := j) ha
   obtain ⟨h3, h4⟩ := eY hb
   exact ⟨⟨v, r, rfl, h1, h3⟩, by simp [jT, h2, h4]⟩
  ·cases h
theorem jOg {v : Value} {x : AV} (h : jWl v = some x) : RV μ j x v := by
 unfold jWl at h
 split at h
 ·split at h
  ·rename_i l hl
   cases h
   exact ⟨_, rfl, (eY hl).1⟩
  ·cases h
 ·exact (jDj h).1
def RT (μ : Mu) (j : J) (τ : T) (a : Act) : Prop := ∀ t, RV μ j ((X.t t).ev τ) (a.tmps.getD t undef)
theorem RT.mono {j' : J} {τ : T} {a : Act} (h : RT μ j τ a) (hj : j.le j') : RT μ j' τ a := fun t => (h t).mono hj
theorem jL {x : Operand} {y : X} (h : xOf x = some y) {τ : T} {a : Act} (ht : RT μ j τ a) : RV μ j (y.ev τ) (a.eval x) := by
 cases x with
 | tmp t => simp only [xOf, Option.some.injEq] at h; subst h; exact ht t
 | const v =>
  simp only [xOf] at h
  split at h
  ·rename_i z hz
   cases h
   exact jOg hz
  ·cases h
 | global g => cases h
 | func f => simp only [xOf, Option.some.injEq] at h; subst h; exact ⟨#[], #[], rfl, rfl, rfl⟩
theorem vV : ∀ {x : List Operand} {y : List X}, pX x = some y → ∀ {τ : T} {a : Act}, RT μ j τ a → RL μ j (evs τ y) (x.map a.eval)
 | [], y, h, τ, a, _ => by cases h; rfl
 | x :: r, y, h, τ, a, ht => by
  simp only [pX] at h
  split at h
  ·rename_i u v hu hv
   cases h
   exact ⟨_, _, rfl, jL hu ht, vV hv ht⟩
  ·cases h
theorem RT.put {τ : T} {a : Act} (ht : RT μ j τ a) {d : Option Nat} {nt : Nat} (hd : sF nt d = true) (hn : a.tmps.size = nt) {x : AV} {v : Value} (hv : RV μ j x v) : RT μ j (fH τ d x) (a.put d v) := by
 cases d with
 | none => exact ht
 | some d =>
  simp only [sF, Bool.and_eq_true, Nat.blt_eq] at hd
  intro t
  have := ht t
  simp only [X.ev, fH, Tr.get_set30 _ _ _ _ (Nat.zero_le _), Act.put, Array.getD_eq_getD_getElem?] at this ⊢
  by_cases e : t = d
  ·subst e
   rw [if_pos rfl, Array.getElem?_setIfInBounds_self_of_lt (by omega)]
   exact hv
  ·rw [if_neg e, Array.getElem?_setIfInBounds_ne (Ne.symm e)]
   exact this
theorem lQ {a : Act} {d : Option Nat} {v : Value} : (a.put d v).tmps.size = a.tmps.size := by cases d <;> simp [Act.put]
theorem nS {a : Act} {d : Option Nat} {v : Value} : (a.put d v).defers = a.defers := by cases d <;> rfl
end
section
variable {P : Program} {μ : Mu} {B : Nat → Prop} {w0 w : World} {j : J} {σ : Mem} {τ : T} {a : Act}
def jAz (P : Program) (μ : Mu) (j : J) (o : Oper) (a : Act) (w : World) (x : AV) : Prop := ∃ v, (execOp a.eval o).run P w = .ok (.value v) w ∧ RV μ j x v
theorem jV {o : Oper} {x : AV} {s : Sem Value} {v : Value} (h : execOp a.eval o = (do pure (.value (← s)))) (hr : s.run P w = .ok v w) (hv : RV μ j x v) : jAz P μ j o a w x :=
 ⟨v, by rw [h]; simp [hr], hv⟩
theorem uX {t n : Nat} (h : xQ P t = some n) : ∃ i, P.info? t = some i ∧ i.size = n := by
 unfold xQ at h
 split at h
 ·rename_i i hi; cases h; exact ⟨i, hi, rfl⟩
 ·cases h
theorem run_sizeOf {t n : Nat} (h : xQ P t = some n) (w : World) : (sizeOf t).run P w = .ok n w := by
 obtain ⟨i, hi, rfl⟩ := uX h
 simp [sizeOf, typeInfo, hi]
theorem vJ {t : Nat} {g : Bool} (h : jHv P t = some g) (w : World) : (isAgg t).run P w = .ok g w := by
 unfold jHv at h
 split at h <;> first | (cases h; done) | (rename_i hd; simp only [Option.some.injEq] at h; subst h; simp [isAgg, run_underlying hd]) | skip
theorem dU {t : Nat} {n : Option Nat} (h : dD P t = some n) : (∃ k, n = some k ∧ jHv P t = some true ∧ xQ P t = some k) ∨ (n = none ∧ jHv P t = some false) := by
 unfold dD at h
 split at h <;> cases h
 ·exact .inl ⟨_, rfl, by assumption, by assumption⟩
 ·exact .inr ⟨rfl, by assumption⟩
theorem aE (hr : Rel μ B w0 j σ w) {t : Nat} {n : Option Nat} (hn : dD P t = some n) {b o : Nat} {g : G} (hj : j b = some g) {x : AV}
  (hx : ldA σ b o n = some x) : ∃ v, (loadVar t ⟨g.c, o, none⟩).run P w = .ok v w ∧ RV μ j x v := by
 rcases dU hn with ⟨k, rfl, ha, hs⟩ | ⟨rfl, ha⟩
 ·simp only [ldA] at hx
  split at hx
  ·rename_i l hl
   cases hx
   obtain ⟨vs, hlen, hrl, _, _, hc⟩ := hr.load hl hj
   have := run_loadCells_list (P := P) w ⟨g.c, o, none⟩ vs hc
   rw [hlen] at this
   exact ⟨.agg vs.toArray, by simp [loadVar, vJ ha, run_sizeOf hs, this], vs.toArray, rfl, by simpa using hrl⟩
  ·cases hx
 ·simp only [ldA] at hx
  split at hx
  ·rename_i v r hl
   cases hx
   obtain ⟨vs, hlen, hrl, _, _, hc⟩ := hr.load hl hj
   obtain ⟨u, t', rfl, h1, h2⟩ := hrl
   have := hc 0 u (by simp)
   have e : (⟨g.c, o, none⟩ : Addr).add 0 = ⟨g.c, o, none⟩ := rfl
   rw [e] at this
   exact ⟨u, by simp [loadVar, vJ ha, this], h1⟩
  ·cases hx
theorem kZ {x : AV} {n : Nat} (h : asN x = some n) {v : Value} (hv : RV μ j x v) : ∃ k, v = .int k n := by
 unfold asN at h
 split at h
 ·cases h; cases hv; exact ⟨_, rfl⟩
 ·cases h
theorem kN {a b : IntKind} (h : eqK a b = true) : a = b := by cases a <;> cases b <;> first | rfl | simp [eqK] at h
theorem jNp {a b : Int} : eqI a b = true ↔ a = b := by
 cases a <;> cases b <;> simp [eqI] <;> omega
theorem jNg {a b : Int} : ltI a b = true ↔ a < b := by
 cases a <;> cases b <;> simp [ltI] <;> omega
theorem gS (a b : Int) : eqI a b = (a == b) := by
 rw [Bool.eq_iff_iff, jNp, beq_iff_eq]
theorem vU (a b : Int) : ltI a b = decide (a < b) := by
 rw [Bool.eq_iff_iff, jNg, decide_eq_true_iff]
theorem jJk {n : Int} (h : jLe n = true) : IntKind.i64.wrap n = n := by
 have : -9223372036854775808 ≤ n ∧ n ≤ 9223372036854775807 := by
  cases n with
  | ofNat m => simp [jLe] at h; constructor <;> (show _ ≤ _; simp only [Int.ofNat_eq_natCast]; omega)
  | negSucc m => simp [jLe] at h; constructor <;> omega
 rw [IntKind.wrap_i64]; omega
theorem jCq (k : IntKind) (n : Int) : jCc k n = k.wrap n := by
 unfold jCc
 split
 ·split
  ·rename_i h; rw [jJk h]
  ·rfl
 ·rfl
theorem uH (k : IntKind) (n : Int) : mkI k n = some (.i k (k.wrap n)) := by simp only [mkI, vN, jCq]
theorem jMx (k : IntKind) (n : Int) : mkR k n = some (.i k n) := by simp only [mkR, vN]
theorem jMg (a b : Int) : decide (a = b) = (a == b) := by rw [Bool.eq_iff_iff]; simp
theorem eN {op : BinOp} {k : IntKind} {x y : Int} {z : AV} (h : uU op k x y = some z) (t : TypeId) : ∃ v, (binOp op t (.int k x) (.int k y)).run P w = .ok v w ∧ RV μ j z v := by
 cases op
 case add => simp only [uU, uH, Option.some.injEq] at h; subst h; exact ⟨.int k (k.wrap (x + y)), by simp [binOp, Op.intArith], rfl⟩
 case sub => simp only [uU, uH, Option.some.injEq] at h; subst h; exact ⟨.int k (k.wrap (x - y)), by simp [binOp, Op.intArith], rfl⟩
 case mul => simp only [uU, uH, Option.some.injEq] at h; subst h; exact ⟨.int k (k.wrap (x * y)), by simp [binOp, Op.intArith], rfl⟩
 case quo =>
  simp only [uU, uH, gS] at h
  split at h
  ·cases h
  ·rename_i hy
   have hy' : y ≠ 0 := by simpa using hy
   simp only [Option.some.injEq] at h; subst h
   exact ⟨.int k (k.wrap (x.tdiv y)), by simp [binOp, Op.intDiv, hy'], rfl⟩
 case rem =>
  simp only [uU, jMx, gS] at h
  split at h
  ·cases h
  ·rename_i hy
   have hy' : y ≠ 0 := by simpa using hy
   simp only [Option.some.injEq] at h; subst h
   exact ⟨.int k (x.tmod y), by simp [binOp, Op.intDiv, hy'], rfl⟩
 case and => simp only [uU, mS, uH, Option.some.injEq] at h; subst h; exact ⟨_, by simp only [binOp, Op.intBits, ne_eq, not_true_eq_false, if_false]; exact Sem.run_pure P w _, rfl⟩
 case or => simp only [uU, mS, uH, Option.some.injEq] at h; subst h; exact ⟨_, by simp only [binOp, Op.intBits, ne_eq, not_true_eq_false, if_false]; exact Sem.run_pure P w _, rfl⟩
 case xor => simp only [uU, mS, uH, Option.some.injEq] at h; subst h; exact ⟨_, by simp only [binOp, Op.intBits, ne_eq, not_true_eq_false, if_false]; exact Sem.run_pure P w _, rfl⟩
 case andNot => simp only [uU, mS, uH, Option.some.injEq] at h; subst h; exact ⟨_, by simp only [binOp, Op.intBits, ne_eq, not_true_eq_false, if_false]; exact Sem.run_pure P w _, rfl⟩
 case eql => simp only [uU, gS, Option.some.injEq] at h; subst h; exact ⟨.bool (x == y), by simp [binOp, Op.intCmp], rfl⟩
 case neq => simp only [uU, gS, Option.some.injEq] at h; subst h; exact ⟨.bool (x != y), by simp [binOp, Op.intCmp], rfl⟩
 case lss => simp only [uU, vU, Option.some.injEq] at h; subst h; exact ⟨.bool (x < y), by simp [binOp, Op.intCmp], rfl⟩
 case leq => simp only [uU, vU, Option.some.injEq] at h; subst h; exact ⟨.bool (x ≤ y), by simp [binOp, Op.intCmp], by show _ = _; congr 1; rw [Bool.eq_iff_iff]; simp⟩
 case gtr => simp only [uU, vU, Option.some.injEq] at h; subst h; exact ⟨.bool (x > y), by simp [binOp, Op.intCmp], rfl⟩
 case geq => simp only [uU, vU, Option.some.injEq] at h; subst h; exact ⟨.bool (x ≥ y), by simp [binOp, Op.intCmp], by show _ = _; congr 1; rw [Bool.eq_iff_iff]; simp⟩
 case shl => cases h
 case shr => cases h
theorem jMn : ∀ (x y : List UInt8), ltL (x.map UInt8.toNat) (y.map UInt8.toNat) = Op.bytesLess x y
 | [], [] => rfl
 | [], _ :: _ => rfl
 | _ :: _, [] => rfl
 | a :: x, b :: y => by
  simp only [List.map_cons, ltL, Op.bytesLess, jMn x y]
  have e1 : Nat.blt a.toNat b.toNat = decide (a < b) := by rw [Bool.eq_iff_iff, Nat.blt_eq, decide_eq_true_iff]; exact UInt8.lt_iff_toNat_lt.symm
  have e2 : Nat.beq a.toNat b.toNat = (a == b) := by rw [Bool.eq_iff_iff, Nat.beq_eq, beq_iff_eq]; exact UInt8.toNat_inj
  rw [e1, e2]
theorem toList_data (s : ByteArray) : s.toList = s.data.toList := ByteArray.toList_eq s
theorem qAl {s u : ByteArray} : ltS s.size (qZ s.data.toList) u.size (qZ u.data.toList) = Op.bytesLess s.data.toList u.data.toList := by
 unfold ltS
 have e1 : s.size = s.data.toList.length := by simp
 have e2 : u.size = u.data.toList.length := by simp
 rw [e1, e2, uV, uV, jMn]
theorem nR {s u : ByteArray} : eqS s.size (qZ s.data.toList) u.size (qZ u.data.toList) = (s.data.toList == u.data.toList) := by
 have e1 : s.size = s.data.toList.length := by simp
 have e2 : u.size = u.data.toList.length := by simp
 rw [Bool.eq_iff_iff, beq_iff_eq]
 unfold eqS
 rw [Bool.and_eq_true, Nat.beq_eq, Nat.beq_eq, e1, e2]
 exact ⟨fun h => jIi h.1 h.2, fun h => by rw [h]; exact ⟨rfl, rfl⟩⟩
theorem jDz {op : BinOp} {n v m u' : Nat} {z : AV} (h : jOn op n v m u' = some z) (t : TypeId) {s u : ByteArray} (hx1 : s.size = n) (hx2 : qZ s.data.toList = v) (hy1 : u.size = m) (hy2 : qZ u.data.toList = u') :
  ∃ v, (binOp op t (.string s) (.string u)).run P w = .ok v w ∧ RV μ j z v := by
 subst hx1
 subst hx2
 subst hy1
 subst hy2
 cases op <;> simp only [jOn, nR, qAl] at h <;> first | (cases h; done) | skip
 case add =>
  split at h
  ·rename_i hl
   rw [gA] at h
   simp only [Option.some.injEq] at h; subst h
   have hl' : s.size + u.size ≤ 1000000000000 := by simpa using hl
   refine ⟨.string (s ++ u), ?_, ⟨_, rfl, by simp [ByteArray.size_append], ?_⟩⟩
   ·simp only [binOp]
    exact run_string_add_sum w s u (by omega)
   ·have e1 : s.size = s.data.toList.length := by simp
    have : (s ++ u).data.toList = s.data.toList ++ u.data.toList := by simp
    rw [this, aC, ← e1]
    rfl
  ·cases h
 all_goals
  simp only [Option.some.injEq] at h; subst h
  simp only [binOp, Op.stringOp, toList_data]
  exact ⟨_, Sem.run_pure P w _, rfl⟩
theorem xA {op : BinOp} {t : TypeId} {p q : Operand} {u v : Value} (h1 : ∀ c, u ≠ .agg c) (h2 : u ≠ .nilIface) : (eqGuard op t p q u v).run P w = .ok () w := by
 unfold eqGuard
 cases op <;> cases u <;> first | rfl | (exact absurd rfl h2) | (exact absurd rfl (h1 _)) | skip
theorem dX : ∀ {l : List AV} {r : Nat}, bS l = some r → ∀ {vs : List Value}, RL μ j l vs → ∃ bs : List UInt8, vs = bs.map (fun b => Value.int .u8 b.toNat) ∧ qZ bs = r
 | [], r, h, vs, hv => by cases h; cases hv; exact ⟨[], rfl, rfl⟩
 | x :: l, r, h, vs, hv => by
  unfold bS at h
  split at h
  ·rename_i heq; cases heq
  ·rename_i n l' heq
   cases heq
   split at h
   ·rename_i hn
    split at h
    ·rename_i r' hr
     rw [jY] at h
     cases h
     obtain ⟨v, t, rfl, h1, h2⟩ := hv
     cases h1
     obtain ⟨bs, e1, e2⟩ := dX hr h2
     have hn' : n < 256 := by simpa using hn
     refine ⟨UInt8.ofNat n :: bs, ?_, ?_⟩
     ·simp only [List.map_cons, e1]
      congr 2
      show Int.ofNat n = _
      simp only [UInt8.toNat_ofNat', Int.ofNat_eq_natCast]
      congr 1; omega
     ·rw [xY, e2, UInt8.toNat_ofNat', Nat.mod_eq_of_lt (by omega)]
      rfl
    ·cases h
   ·cases h
  ·cases h
theorem lZ : ∀ (bs : List UInt8), RL μ j (u8s (bs.map UInt8.toNat)) (bs.map fun b => Value.int .u8 b.toNat)
 | [] => rfl
 | b :: bs => ⟨_, _, rfl, rfl, lZ bs⟩
theorem fT {x : AV} {k : IntKind} {lo hi : Nat} {u : Value} (h : nL x = some (k, lo, hi)) (hu : RV μ j x u) : ∃ n : Int, u = .int k n ∧ (lo : Int) ≤ n ∧ n ≤ (hi : Int) := by
 unfold nL at h
 split at h
 ·cases h
  cases hu
  exact ⟨_, rfl, Int.le_refl _, Int.le_refl _⟩
 ·cases h
  obtain ⟨n, _, rfl, h1, h2⟩ := hu
  exact ⟨n, rfl, h1, h2⟩
 ·cases h
theorem jFn {x y : AV} {k k' : IntKind} {n m : Int} (h : jHf x y = true) (hx : RV μ j x (.int k n)) (hy : RV μ j y (.int k' m)) : n = m := by
 unfold jHf at h
 split at h
 ·obtain rfl := Nat.eq_of_beq_eq_true h
  obtain ⟨n1, e1, e2, _⟩ := hx
  obtain ⟨n2, e3, e4, _⟩ := hy
  cases e2
  cases e4
  exact e1.inj e3
 ·cases h
section
variable {lo hi lo' hi' : Nat} {n m : Int} {r s : Bool}
theorem sP (h : iC s lo hi lo' hi' = some r) (h1 : (lo : Int) ≤ n) (h2 : n ≤ (hi : Int)) (h3 : (lo' : Int) ≤ m) (h4 : m ≤ (hi' : Int)) (hs : s = true → n = m) : decide (n = m) = r := by
 unfold iC at h
 split at h
 ·rename_i e
  cases h
  simpa using hs e
 ·split at h
  ·rename_i e
   cases h
   simp only [Bool.or_eq_true, Nat.blt_eq] at e
   have : ¬ n = m := by omega
   simpa using this
  ·split at h <;> cases h
   rename_i e
   simp only [Bool.and_eq_true, Nat.beq_eq] at e
   rename_i e1
   simp only [Bool.or_eq_true, Nat.blt_eq] at e1
   have : n = m := by omega
   simpa using this
theorem jBv (h : jFg lo hi lo' hi' = some r) (h1 : (lo : Int) ≤ n) (h2 : n ≤ (hi : Int)) (h3 : (lo' : Int) ≤ m) (h4 : m ≤ (hi' : Int)) : decide (n < m) = r := by
 unfold jFg at h
 split at h
 ·rename_i e
  cases h
  rw [Nat.blt_eq] at e
  simp; omega
 ·split at h <;> cases h
  rename_i e
  rw [Nat.ble_eq] at e
  simp; omega
theorem jBs (h : jEi lo hi lo' hi' = some r) (h1 : (lo : Int) ≤ n) (h2 : n ≤ (hi : Int)) (h3 : (lo' : Int) ≤ m) (h4 : m ≤ (hi' : Int)) : decide (n ≤ m) = r := by
 unfold jEi at h
 split at h
 ·rename_i e
  cases h
  rw [Nat.ble_eq] at e
  simp; omega
 ·split at h <;> cases h
  rename_i e
  rw [Nat.blt_eq] at e
  simp; omega
end
theorem jCf {b : Option Bool} {r : Bool} (h : jVs b = some r) : b = some (!r) := by
 unfold jVs at h
 split at h <;> cases h
 simp
theorem mZ {b : Option Bool} {z : AV} (h : aG b = some z) : ∃ r, b = some r ∧ z = .b r := by
 unfold aG at h
 split at h <;> cases h
 exact ⟨_, rfl, rfl⟩
theorem jLu {o : BinOp} {x y : AV} {r : Bool} {u v : Value} (h : jId o x y = some r) (hu : RV μ j x u) (hv : RV μ j y v) : ∃ k n m, u = .int k n ∧ v = .int k m ∧ uU o k n m = some (.b r) := by
 unfold jId at h
 split at h
 ·rename_i k a b k' c d hx hy
  split at h
  ·rename_i hk
   obtain rfl := kN hk
   obtain ⟨n, rfl, h1, h2⟩ := fT hx hu
   obtain ⟨m, rfl, h3, h4⟩ := fT hy hv
   have hs : jHf x y = true → n = m := fun e => jFn e hu hv
   refine ⟨k, n, m, rfl, rfl, ?_⟩
   cases o <;> simp only [qDq] at h <;> first | (cases h; done) | skip
   case eql => simp only [uU, gS, ← sP h h1 h2 h3 h4 hs, jMg]
   case neq =>
    have := sP (jCf h) h1 h2 h3 h4 hs
    simp only [uU, gS, ← jMg, this, Bool.not_not]
   case lss => simp only [uU, vU, jBv h h1 h2 h3 h4]
   case leq =>
    have := jBs h h1 h2 h3 h4
    simp only [uU, vU, ← this]
    congr 2
    rw [Bool.eq_iff_iff]; simp
   case gtr => simp only [uU, vU, jBv h h3 h4 h1 h2]
   case geq =>
    have := jBs h h3 h4 h1 h2
    simp only [uU, vU, ← this]
    congr 2
    rw [Bool.eq_iff_iff]; simp
  ·cases h
 ·cases h
theorem dT {x y : AV} {r : Bool} (h : jRu x y = some r) {p q : UInt8} (hx : RV μ j x (.int .u8 p.toNat)) (hy : RV μ j y (.int .u8 q.toNat)) : (p == q) = r := by
 unfold jRu at h
 split at h
 ·rename_i k a b k' c d hx' hy'
  split at h
  ·obtain ⟨n, e1, h1, h2⟩ := fT hx' hx
   obtain ⟨m, e2, h3, h4⟩ := fT hy' hy
   cases e1
   cases e2
   have := sP h h1 h2 h3 h4 (fun e => jFn e hx hy)
   rw [← this, Bool.eq_iff_iff, beq_iff_eq, decide_eq_true_iff, ← UInt8.toNat_inj]
   omega
  ·cases h
 ·cases h
theorem pJ : ∀ {l m : List AV} {r : Bool} {bs cs : List UInt8}, jPf l m = some r → RL μ j l (bs.map fun b => Value.int .u8 b.toNat) → RL μ j m (cs.map fun b => Value.int .u8 b.toNat) → (bs == cs) = r
 | [], [], r, bs, cs, h, h1, h2 => by
  cases h
  have e1 : bs = [] := by simpa using (show (bs.map fun b => Value.int .u8 b.toNat) = [] from h1)
  have e2 : cs = [] := by simpa using (show (cs.map fun b => Value.int .u8 b.toNat) = [] from h2)
  rw [e1, e2]; rfl
 | [], y :: t, r, bs, cs, h, h1, h2 => by
  cases h
  have e1 : bs = [] := by simpa using (show (bs.map fun b => Value.int .u8 b.toNat) = [] from h1)
  obtain ⟨v, w, e2, _⟩ := h2
  cases cs with
  | nil => cases e2
  | cons c cs => rw [e1]; rfl
 | x :: t, [], r, bs, cs, h, h1, h2 => by
  cases h
  have e1 : cs = [] := by simpa using (show (cs.map fun b => Value.int .u8 b.toNat) = [] from h2)
  obtain ⟨v, w, e2, _⟩ := h1
  cases bs with
  | nil => cases e2
  | cons c bs => rw [e1]; rfl
 | x :: l, y :: m, r, bs, cs, h, h1, h2 => by
  obtain ⟨v, w, e1, hv, hw⟩ := h1
  obtain ⟨v', w', e2, hv', hw'⟩ := h2
  cases bs with
  | nil => cases e1
  | cons b bs =>
   cases cs with
   | nil => cases e2
   | cons c cs =>
    simp only [List.map_cons, List.cons.injEq] at e1 e2
    obtain ⟨rfl, rfl⟩ := e1
    obtain ⟨rfl, rfl⟩ := e2
    simp only [jPf] at h
    have e3 : (b :: bs == c :: cs) = ((b == c) && (bs == cs)) := rfl
    rw [e3]
    split at h
    ·rename_i hc
     cases h
     rw [dT hc hv hv']; rfl
    ·rename_i hc
     rw [dT hc hv hv', pJ h hw hw']; rfl
    ·split at h <;> cases h
     rename_i hc
     rw [pJ hc hw hw', Bool.and_false]
theorem iH {x : AV} {l : List AV} {u : Value} (h : kS x = some l) (hu : RV μ j x u) : ∃ s : ByteArray, u = .string s ∧ RL μ j l (s.data.toList.map fun b => Value.int .u8 b.toNat) := by
 unfold kS at h
 split at h
 ·split at h <;> cases h
  obtain ⟨s, rfl, e1, e2⟩ := hu
  refine ⟨s, rfl, ?_⟩
  rw [← e1, ← e2, show s.size = s.data.toList.length from by simp, uV]
  exact lZ _
 ·cases h
  exact hu
 ·cases h
theorem oE : ∀ {a b : List UInt8}, (a.map fun b => Value.int .u8 b.toNat) = (b.map fun b => Value.int .u8 b.toNat) → a = b
 | [], [], _ => rfl
 | [], _ :: _, h => by cases h
 | _ :: _, [], h => by cases h
 | x :: a, y :: b, h => by
  simp only [List.map_cons, List.cons.injEq, Value.int.injEq, true_and] at h
  rw [oE h.2, UInt8.toNat_inj.1 (by omega : x.toNat = y.toNat)]
theorem jNt {l : List AV} {s : ByteArray} (h : RL μ j l (s.data.toList.map fun b => Value.int .u8 b.toNat)) : RV μ j (jVq l) (.string s) := by
 unfold jVq
 split
 ·rename_i v hv
  obtain ⟨bs, e1, e2⟩ := dX hv h
  have e3 : s.data.toList = bs := by
   exact oE e1
  have e4 := RL.len _ _ h
  refine ⟨s, rfl, ?_, by rw [e3]; exact e2⟩
  rw [vR, Nat.add_zero, ← e4]; simp
 ·exact ⟨s, rfl, h⟩
theorem jWr {op : BinOp} {x y z : AV} (h : jZw op x y = some z) (t : TypeId) {u v : Value} (hu : RV μ j x u) (hv : RV μ j y v) (p q : Operand) :
  ∃ r, (do eqGuard op t p q u v; binOp op t u v : Sem Value).run P w = .ok r w ∧ RV μ j z r := by
 have ints : ∀ {o : BinOp} {r : Bool}, jId o x y = some r → ∃ c, (do eqGuard o t p q u v; binOp o t u v : Sem Value).run P w = .ok c w ∧ RV μ j (.b r) c := by
  intro o r hr
  obtain ⟨k, n, m, rfl, rfl, hb⟩ := jLu hr hu hv
  simp only [Sem.run_bind, xA (u := .int k n) (v := .int k m) (by simp) (by simp), Result.andThen_ok]
  exact eN hb t
 have strs : ∀ {a b : List AV}, kS x = some a → kS y = some b → ∃ s1 s2 : ByteArray, u = .string s1 ∧ v = .string s2 ∧ RL μ j a (s1.data.toList.map fun b => Value.int .u8 b.toNat) ∧ RL μ j b (s2.data.toList.map fun b => Value.int .u8 b.toNat) := by
  intro a b ha hb
  obtain ⟨s1, h1, h2⟩ := iH ha hu
  obtain ⟨s2, h3, h4⟩ := iH hb hv
  exact ⟨s1, s2, h1, h3, h2, h4⟩
 have eqs : ∀ {o : BinOp} {r g : Bool}, jXh x y = some r → (o = if g then .neq else .eql) → ∃ c, (do eqGuard o t p q u v; binOp o t u v : Sem Value).run P w = .ok c w ∧ RV μ j (.b (if g then !r else r)) c := by
  intro o r g hr ho
  unfold jXh at hr
  split at hr
  ·rename_i a b ha hb
   obtain ⟨s1, s2, rfl, rfl, h1, h2⟩ := strs ha hb
   have he := pJ hr h1 h2
   simp only [Sem.run_bind, xA (u := .string s1) (v := .string s2) (by simp) (by simp), Result.andThen_ok]
   subst ho
   cases g
   ·refine jDz (op := .eql) (n := s1.size) (v := qZ s1.data.toList) (m := s2.size) (u' := qZ s2.data.toList) ?_ t rfl rfl rfl rfl
    simp only [jOn, nR, he]; rfl
   ·refine jDz (op := .neq) (n := s1.size) (v := qZ s1.data.toList) (m := s2.size) (u' := qZ s2.data.toList) ?_ t rfl rfl rfl rfl
    simp only [jOn, nR, he]; rfl
  ·subst ho
   cases g
   ·exact ints hr
   ·obtain ⟨k, n, m, rfl, rfl, hb⟩ := jLu hr hu hv
    simp only [Sem.run_bind, xA (u := .int k n) (v := .int k m) (by simp) (by simp), Result.andThen_ok]
    refine eN (op := .neq) ?_ t
    simp only [uU, Option.some.injEq, AV.b.injEq] at hb ⊢
    rw [hb]; rfl
 cases op <;> simp only [jZw] at h <;> first | (cases h; done) | skip
 case add =>
  unfold qCn at h
  split at h
  ·rename_i c q lo hi
   split at h
   ·rename_i hl
    cases h
    cases hu
    obtain ⟨n, e1, rfl, g1, g2⟩ := hv
    have hl' : hi + c ≤ 9223372036854775807 := by simpa using hl
    simp only [Sem.run_bind, xA (u := .int .i64 (.ofNat c)) (v := .int .i64 n) (by simp) (by simp), Result.andThen_ok]
    have hb : uU .add .i64 (.ofNat c) n = some (.i .i64 ((c : Int) + n)) := by
     show mkI .i64 (Int.ofNat c + n) = _
     have e : jCc .i64 (Int.ofNat c + n) = (c : Int) + n := by
      have e2 : Int.ofNat c = (c : Int) := rfl
      rw [e2]
      rw [jCq]
      simp [IntKind.wrap, IntKind.signed, IntKind.bits]
      omega
     unfold mkI
     rw [vN, e]
    obtain ⟨r, h1, h2⟩ := eN (P := P) (μ := μ) (j := j) (w := w) hb t
    cases h2
    refine ⟨_, h1, (c : Int) + n, e1.add c, rfl, ?_, ?_⟩
    ·show ((lo + c : Nat) : Int) ≤ _; omega
    ·show _ ≤ ((hi + c : Nat) : Int); omega
   ·cases h
  unfold qBs at h
  split at h
  ·rename_i a b ha hb
   split at h
   ·rename_i hl
    cases h
    obtain ⟨s1, s2, rfl, rfl, h1, h2⟩ := strs ha hb
    have l1 := RL.len _ _ h1
    have l2 := RL.len _ _ h2
    simp only [List.length_map, Array.length_toList] at l1 l2
    have hl' : s1.size + s2.size ≤ 1000000000000 := by
     simp only [vR, Nat.add_zero, Nat.ble_eq] at hl
     have e1 : s1.data.size = s1.size := rfl
     have e2 : s2.data.size = s2.size := rfl
     have : a.length + b.length ≤ 1000000000000 := hl
     omega
    simp only [Sem.run_bind, xA (u := .string s1) (v := .string s2) (by simp) (by simp), Result.andThen_ok]
    refine ⟨.string (s1 ++ s2), ?_, jNt ?_⟩
    ·simp only [binOp]
     exact run_string_add_sum w s1 s2 (by omega)
    ·have : (s1 ++ s2).data.toList = s1.data.toList ++ s2.data.toList := by simp
     rw [this, List.map_append]
     exact h1.append h2
   ·cases h
  ·cases h
 case eql =>
  obtain ⟨r, hr, rfl⟩ := mZ h
  exact eqs (g := false) hr rfl
 case neq =>
  obtain ⟨r, hr, rfl⟩ := mZ h
  have := eqs (o := .neq) (g := true) (jCf hr) rfl
  simpa using this
 all_goals
  obtain ⟨r, hr, rfl⟩ := mZ h
  exact ints hr
theorem jNy {op : BinOp} {x y z : AV} (h : jOz op x y = some z) (t : TypeId) {u v : Value} (hu : RV μ j x u) (hv : RV μ j y v) (p q : Operand) :
  ∃ r, (do eqGuard op t p q u v; binOp op t u v : Sem Value).run P w = .ok r w ∧ RV μ j z r := by
 unfold jOz at h
 split at h
 ·rename_i k a k' b
  cases hu
  cases hv
  simp only [Sem.run_bind, xA (u := .int k a) (v := .int k' b) (by simp) (by simp), Result.andThen_ok]
  split at h
  ·rename_i hs
   split at h
   ·cases h
   ·rename_i hb
    have hb' : ¬ b < 0 := fun e => hb (jNg.2 e)
    split at h
    ·simp only [uH, Option.some.injEq] at h; subst h
     exact ⟨.int k (k.wrap (a * 2 ^ min b.toNat k.bits)), by simp [binOp, Op.shift, hb'], rfl⟩
    ·simp only [jMx, Option.some.injEq] at h; subst h
     exact ⟨.int k (a.fdiv (2 ^ min b.toNat k.bits)), by simp [binOp, Op.shift, hb'], rfl⟩
    ·cases h
  ·split at h
   ·rename_i hk
    obtain rfl := kN hk
    exact eN h t
   ·cases h
 ·obtain ⟨s1, rfl, e1, e1'⟩ := hu
  obtain ⟨s2, rfl, e2, e2'⟩ := hv
  simp only [Sem.run_bind, xA (u := .string s1) (v := .string s2) (by simp) (by simp), Result.andThen_ok]
  exact jDz h t e1 e1' e2 e2'
 ·exact jWr h t hu hv p q
theorem qAt {t : TypeId} (ht : P.underlying t = some .bool) (a b : Bool) : (Op.equal t (.bool a) (.bool b)).run P w = .ok (a == b) w := by
 have h : ∀ d : Nat, (Op.equalIn (d + 1) t (.bool a) (.bool b)).run P w = .ok (a == b) w := fun d => by simp [Op.equalIn, run_underlying ht]
 exact h 9999
theorem mU (off : Nat) : ∀ (L : List Value) (s : Nat) (A : Array Value), off + s + L.length ≤ A.size →
  ((L.zipIdx s).foldl (fun cs (x : Value × Nat) => cs.setIfInBounds (off + x.2) x.1) A).size = A.size ∧
  ∀ k, ((L.zipIdx s).foldl (fun cs (x : Value × Nat) => cs.setIfInBounds (off + x.2) x.1) A)[k]? = if off + s ≤ k ∧ k < off + s + L.length then L[k - (off + s)]? else A[k]?
 | [], s, A, h => ⟨rfl, fun k => by simp; intro h1 h2; omega⟩
 | v :: L, s, A, h => by
  simp only [List.length_cons] at h
  obtain ⟨h1, h2⟩ := mU off L (s + 1) (A.setIfInBounds (off + s) v) (by simp; omega)
  refine ⟨by simpa using h1, fun k => ?_⟩
  simp only [List.zipIdx_cons, List.foldl_cons, h2 k, List.length_cons]
  by_cases e : k = off + s
  ·subst e
   rw [if_neg (by omega), if_pos ⟨by omega, by omega⟩, Array.getElem?_setIfInBounds_self_of_lt (by omega)]
   simp
  ·rw [Array.getElem?_setIfInBounds_ne (Ne.symm e)]
   by_cases e2 : off + (s + 1) ≤ k ∧ k < off + (s + 1) + L.length
   ·rw [if_pos e2, if_pos ⟨by omega, by omega⟩, show k - (off + s) = (k - (off + (s + 1))) + 1 from by omega]
    simp
   ·rw [if_neg e2, if_neg (by omega)]
inductive jBf (place : Nat → Option (Nat × Nat)) : List (Nat × Operand) → List (Nat × Nat × X) → Prop where
 | nil : jBf place [] []
 | cons {i off n : Nat} {x : Operand} {y : X} {r : List (Nat × Operand)} {ps : List (Nat × Nat × X)} (hp : place i = some (off, n)) (hx : xOf x = some y) (hr : jBf place r ps) : jBf place ((i, x) :: r) ((off, n, y) :: ps)
theorem eF (hμ : yJ μ) (place : Nat → Option (Nat × Nat)) (ht : RT μ j τ a) : ∀ (parts : List (Nat × Operand)) (ps : List (Nat × Nat × X)) (z l : List AV) (zc : Array Value),
  jBf place parts ps → wC τ ps z = some l → RL μ j z zc.toList →
  ∃ cells, Instr.fill place zc (parts.map fun p => (p.1, a.eval p.2)) = some cells ∧ RL μ j l cells.toList
 | [], ps, z, l, zc, hf, h, hz => by
  cases hf
  simp only [wC, Option.some.injEq] at h; subst h
  exact ⟨zc, rfl, hz⟩
 | (i, x) :: r, ps, z, l, zc, hf, h, hz => by
  cases hf with
  | cons hp1 hp2 hr =>
   rename_i off n y ps
   simp only [wC] at h
   split at h
   ·rename_i hc
    simp only [Bool.and_eq_true] at hc
    split at h
    ·rename_i z' hput
     have hx := (jL hp2 ht).cells hμ
     have hlen : (a.eval x).cells.size = n := by
      have := RL.len _ _ hx
      rw [yF _ _ hc.1] at this
      simpa using this
     have hzl : zc.size = z.length := by simpa using RL.len _ _ hz
     have hol := (fG _ _ _ _ hput).2
     rw [yF _ _ hc.1] at hol
     obtain ⟨g1, g2⟩ := mU off (a.eval x).cells.toList 0 zc (by simp; omega)
     have e1 : (a.eval x).cells.zipIdx.foldl (fun cs (x : Value × Nat) => cs.setIfInBounds (off + x.2) x.1) zc = ((a.eval x).cells.toList.zipIdx 0).foldl (fun cs (x : Value × Nat) => cs.setIfInBounds (off + x.2) x.1) zc := by
      rw [← Array.foldl_toList]; simp
     have hz' : RL μ j z' ((a.eval x).cells.zipIdx.foldl (fun cs (x : Value × Nat) => cs.setIfInBounds (off + x.2) x.1) zc).toList := by
      rw [e1]
      refine RL.of_nth _ _ (by rw [yU hput]; simp only [Array.length_toList]; rw [g1, hzl]) fun k b hb => ?_
      rw [uO hput, yF _ _ hc.1] at hb
      rw [Array.getElem?_toList, g2 k]
      by_cases e : off ≤ k ∧ k < off + n
      ·rw [if_pos e] at hb
       rw [if_pos ⟨by omega, by simp; omega⟩]
       exact RL.nth _ _ hx _ _ hb
      ·rw [if_neg e] at hb
       rw [if_neg (by simp; omega)]
       have := RL.nth _ _ hz k b hb
       simpa using this
     obtain ⟨cells, hfl, hrl⟩ := eF hμ place ht r ps z' l _ hr h hz'
     refine ⟨cells, ?_, hrl⟩
     simp only [List.map_cons, Instr.fill, hp1]
     rw [if_neg (by simp only [Bool.or_eq_true, decide_eq_true_eq, not_or]; exact ⟨by simp [hlen], by omega⟩)]
     exact hfl
    ·cases h
   ·cases h
theorem pS {t : Nat} {z : List AV} (h : fP P t = some z) : ∃ i v, P.info? t = some i ∧ i.zero = some v ∧ RL μ j z v.cells.toList ∧ jT z = true := by
 unfold fP at h
 split at h
 ·rename_i i hi
  split at h
  ·rename_i v hv
   exact ⟨i, v, hi, hv, (eY h).1, (eY (μ := μ) (j := j) h).2⟩
  ·cases h
 ·cases h
end
end
end Go.Proofs.YthfmepmchaofjaaGreat.Ev
