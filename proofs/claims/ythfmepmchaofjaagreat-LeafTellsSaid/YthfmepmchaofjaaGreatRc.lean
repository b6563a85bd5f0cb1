/-
A checker of the conditions of runs: terms, what is hY, and steps. What they promise is so. No program is named here.
-/
import Derived.Test.YthfmepmchaofjaaGreatRa
section
set_option linter.all false
namespace Go.Proofs.YthfmepmchaofjaaGreat.Ev.Rf
noncomputable section
open Go
def ok (a : An) : Prop := ∃ s s', a s = .ok s'
theorem jD {c : Bool} {tag : Nat} {st : Sx} {g : List LT} {r : An} (h : ok (jP c tag st g r)) : c = true ∧ ok r := by
 cases c with
 | true => exact ⟨rfl, h⟩
 | false => obtain ⟨s, s', h⟩ := h; cases h
theorem jE {tag : Nat} {st : Sx} (h : ok (no1 tag st)) : False := by obtain ⟨s, s', h⟩ := h; cases h
theorem uJ {a b : An} (h : ok (tO a b)) : ok a ∧ ok b := by
 obtain ⟨s, s', h⟩ := h
 unfold tO at h
 split at h
 ·rename_i s1 e; exact ⟨⟨_, _, e⟩, ⟨_, _, h⟩⟩
 ·cases h
theorem nB {st : Sx} {f : qAo → Nat} {k : Nat → An} (h : ok (pop st f k)) : ∃ c, ok (k c) := by
 obtain ⟨s, s', h⟩ := h
 unfold pop at h
 split at h
 ·exact ⟨_, _, _, h⟩
 ·split at h
  ·cases h
  ·exact ⟨_, _, _, h⟩
theorem jOc {k : Nat → An} {s : Tp} {st : Sx} : ∀ {l : List An} {i : Nat} {s' : Tp}, jUr k s st l i = .ok s' → ∃ j a, l[j]? = some a ∧ ok a ∧ ok (k (i + j))
 | [], i, s', h => by simp only [jUr] at h; cases h
 | a :: r, i, s', h => by
  simp only [jUr] at h
  split at h
  ·rename_i s1 e; exact ⟨0, a, rfl, ⟨_, _, e⟩, ⟨_, _, h⟩⟩
  ·obtain ⟨j, b, h1, h2, h3⟩ := jOc h
   exact ⟨j + 1, b, by simpa using h1, h2, by rw [show i + (j + 1) = Nat.succ i + j by omega]; exact h3⟩
theorem bM {st : Sx} {l : List An} {k : Nat → An} (h : ok (sel st l k)) : ∃ j a, l[j]? = some a ∧ ok a ∧ ok (k j) := by
 obtain ⟨s, s', h⟩ := h
 unfold sel at h
 split at h
 ·obtain ⟨j, a, h1, h2, h3⟩ := jOc h
  rw [Nat.zero_add] at h3
  exact ⟨j, a, h1, h2, h3⟩
 ·split at h
  ·cases h
  ·rw [qJ] at h
   split at h
   ·rename_i c r _ _ a e
    obtain ⟨h1, h2⟩ := uJ ⟨_, _, h⟩
    exact ⟨_, a, e, h1, h2⟩
   ·cases h
theorem zO {b : Bool} {a c : An} (h : ok (bif b then a else c)) : (b = true ∧ ok a) ∨ (b = false ∧ ok c) := by cases b; exact .inr ⟨rfl, h⟩; exact .inl ⟨rfl, h⟩
theorem zQ {α : Type} (n : Nat) (k : Nat → α) : jZ n k = k n := by cases n <;> rfl
theorem xM {α : Type} (n : Int) (k : Int → α) : wL n k = k n := by
 cases n with
 | ofNat m => exact zQ m (fun m => k (.ofNat m))
 | negSucc m => exact zQ m (fun m => k (.negSucc m))
theorem gL {z : Int} (h : geZ z = true) : 0 ≤ z := by cases z; exact Int.ofNat_nonneg _; simp [geZ] at h
theorem jLb {z : Int} : geZ z = decide (0 ≤ z) := by
 cases z with
 | ofNat n => simp [geZ]
 | negSucc n => simp only [geZ]; exact (decide_eq_false (by omega)).symm
theorem vS {z : Int} : isZ z = decide (z = 0) := by
 cases z with
 | ofNat n => simp only [isZ]; cases n with
  | zero => rfl
  | succ n => exact (decide_eq_false (by intro h; cases h)).symm
 | negSucc n => simp only [isZ]; exact (decide_eq_false (by intro h; cases h)).symm
theorem jDu {a b : Int} (h : eqI a b = true) : a = b := by
 unfold eqI at h
 split at h
 ·rw [Nat.eq_of_beq_eq_true h]
 ·rw [Nat.eq_of_beq_eq_true h]
 ·cases h
theorem jHy (ρ : Rho) (v : Nat) (a : Int) : ∀ l, evL ρ (jHe v a l) = a * (ρ v).z + evL ρ l
 | [] => by simp [jHe, evL]
 | p :: r => by
  simp only [jHe]
  cases h1 : Nat.beq v p.1 with
  | true =>
   have e := Nat.eq_of_beq_eq_true h1
   subst e
   simp only [cond_true, xM, vS]
   by_cases hz : a + p.2 = 0
   ·simp only [hz, decide_true, cond_true, evL]
    have : a * (ρ p.1).z + p.2 * (ρ p.1).z = 0 := by rw [← Int.add_mul, hz, Int.zero_mul]
    omega
   ·simp only [hz, decide_false, cond_false, evL, Int.add_mul]; omega
  | false =>
   simp only [cond_false]
   cases h2 : Nat.blt p.1 v with
   | true => simp only [cond_true, evL]
   | false => simp only [cond_false, evL, jHy ρ v a r]; omega
theorem jHk (ρ : Rho) : ∀ l m, evL ρ (jKu l m) = evL ρ l + evL ρ m
 | [], m => by simp [jKu, evL]
 | p :: r, m => by simp only [jKu, jHy, jHk ρ r m, evL]; omega
theorem jCk (ρ : Rho) (k : Int) : ∀ l, evL ρ (jAp k l) = k * evL ρ l
 | [] => by simp [jAp, evL]
 | p :: r => by simp only [jAp, xM, evL, jCk ρ k r, Int.mul_add, Int.mul_assoc]
@[simp] theorem zH (ρ : Rho) (c : Int) : (LT.con c).ev ρ = c := by simp [LT.con, LT.ev, evL]
@[simp] theorem qG (ρ : Rho) (v : Nat) : (LT.var v).ev ρ = (ρ v).z := by simp [LT.var, LT.ev, evL]
@[simp] theorem zU (ρ : Rho) (s t : LT) : (s.add t).ev ρ = s.ev ρ + t.ev ρ := by simp only [LT.add, xM, LT.ev, jHk]; omega
@[simp] theorem uK (ρ : Rho) (k : Int) (t : LT) : (t.smul k).ev ρ = k * t.ev ρ := by
 unfold LT.smul
 rw [vS]
 by_cases h : k = 0
 ·subst h; simp [LT.ev, evL]
 ·simp only [h, decide_false, cond_false, xM, LT.ev, jCk, Int.mul_add]
@[simp] theorem qA (ρ : Rho) (s t : LT) : (s.sub t).ev ρ = s.ev ρ - t.ev ρ := by simp only [LT.sub, zU, uK]; omega
@[simp] theorem jO (ρ : Rho) (k : Int) (t : LT) : (t.addc k).ev ρ = t.ev ρ + k := by simp only [LT.addc, xM, LT.ev]; omega
@[simp] theorem zC (ρ : Rho) (t : LT) : (t.neg).ev ρ = - t.ev ρ := by simp only [LT.neg, uK]; omega
@[simp] theorem jSr (ρ : Rho) (t : LT) : (t.not).ev ρ = - t.ev ρ - 1 := by simp only [LT.not, uK, jO]; omega
theorem jOa : ∀ {l m : List (Nat × Int)}, jOl l m = true → l = m
 | [], [], _ => rfl
 | [], _ :: _, h => by simp [jOl] at h
 | _ :: _, [], h => by simp [jOl] at h
 | p :: r, q :: s, h => by
  simp only [jOl, Bool.and_eq_true] at h
  obtain ⟨h1, h2, h3⟩ := h
  obtain ⟨a, b⟩ := p
  obtain ⟨c, d⟩ := q
  have e1 := Nat.eq_of_beq_eq_true h1
  have e2 := jDu h2
  dsimp only at e1 e2
  subst e1; subst e2
  rw [jOa h3]
theorem LT.beq_ok {s t : LT} (h : s.beq t = true) : s = t := by
 simp only [LT.beq, Bool.and_eq_true] at h
 obtain ⟨a, b⟩ := s
 obtain ⟨c, d⟩ := t
 have e1 := jDu h.1
 have e2 := jOa h.2
 dsimp only at e1 e2
 subst e1; subst e2; rfl
theorem wJ {t : LT} (h : t.isC = true) (ρ : Rho) : t.ev ρ = t.c := by
 unfold LT.isC at h
 split at h
 ·rename_i e; simp only [LT.ev, e, evL, Int.add_zero]
 ·cases h
theorem jRj {ρ : Rho} {a b : Int} {t f u : LT} (h : jSv a b t f = some u) (hf : 0 ≤ f.ev ρ) (hu : 0 ≤ u.ev ρ) : 0 ≤ t.ev ρ := by
 have key : ∀ (k m : Nat), 0 ≤ (Int.ofNat (k + 1)) * t.ev ρ + (Int.negSucc m) * f.ev ρ → 0 ≤ t.ev ρ := by
  intro k m q
  have h1 : (Int.negSucc m) * f.ev ρ ≤ 0 := by
   have := Int.mul_nonneg (show (0 : Int) ≤ (m + 1 : Int) by omega) hf
   have e : (Int.negSucc m) * f.ev ρ = - ((m + 1 : Int) * f.ev ρ) := by
    rw [show Int.negSucc m = - ((m : Int) + 1) from Int.negSucc_eq m, Int.neg_mul]
   omega
  have h2 : 0 ≤ (Int.ofNat (k + 1)) * t.ev ρ := by omega
  by_cases hn : 0 ≤ t.ev ρ
  ·exact hn
  ·exfalso
   have : (Int.ofNat (k + 1)) * t.ev ρ < 0 := Int.mul_neg_of_pos_of_neg (by show (0 : Int) < ((k + 1 : Nat) : Int); omega) (by omega)
   omega
 unfold jSv at h
 split at h
 ·split at h
  ·cases h
  ·cases h
  ·cases h
   simp only [zU, uK] at hu
   exact key _ _ hu
 ·cases h
  simp only [zU, uK] at hu
  exact key _ _ hu
 ·cases h
theorem jKv {ρ : Rho} {F : List LT} (hF : ∀ f, f ∈ F → 0 ≤ f.ev ρ) : ∀ {n c : Nat} {t : LT}, chk F n c t = true → 0 ≤ t.ev ρ
 | 0, c, t, h => by simp [chk] at h
 | n + 1, c, t, h => by
  simp only [chk] at h
  split at h
  ·rename_i e; have := gL h; simp only [LT.ev, e, evL]; omega
  ·rw [qJ] at h
   split at h
   ·rename_i f e
    split at h
    ·rename_i u hu
     exact jRj hu (hF f (List.mem_of_getElem? e)) (jKv hF h)
    ·cases h
   ·cases h
theorem jBq {ρ ρ' : Rho} {n : Nat} (ag : ∀ k, k < n → ρ' k = ρ k) : ∀ {l : List (Nat × Int)}, scL n l = true → evL ρ' l = evL ρ l
 | [], _ => rfl
 | p :: r, h => by
  simp only [scL, Bool.and_eq_true] at h
  simp only [evL, ag p.1 (Nat.le_of_ble_eq_true h.1), jBq ag h.2]
theorem jR {ρ ρ' : Rho} {n : Nat} (ag : ∀ k, k < n → ρ' k = ρ k) {t : LT} (h : t.sc n = true) : t.ev ρ' = t.ev ρ := by simp only [LT.ev, jBq ag h]
theorem jFu {n v : Nat} {a : Int} (hv : v < n) : ∀ {l : List (Nat × Int)}, scL n l = true → scL n (jHe v a l) = true
 | [], _ => by simp only [jHe, scL, Bool.and_true]; exact Nat.ble_eq_true_of_le hv
 | p :: r, h => by
  simp only [scL, Bool.and_eq_true] at h
  simp only [jHe]
  cases h1 : Nat.beq v p.1 with
  | true =>
   simp only [cond_true, xM]
   cases isZ (a + p.2) with
   | true => exact h.2
   | false => simp only [cond_false, scL, Bool.and_eq_true]; exact ⟨Nat.ble_eq_true_of_le hv, h.2⟩
  | false =>
   simp only [cond_false]
   cases h2 : Nat.blt p.1 v with
   | true => simp only [cond_true, scL, Bool.and_eq_true]; exact ⟨Nat.ble_eq_true_of_le hv, h.1, h.2⟩
   | false => simp only [cond_false, scL, Bool.and_eq_true]; exact ⟨h.1, jFu hv h.2⟩
theorem jFi {n : Nat} : ∀ {l m : List (Nat × Int)}, scL n l = true → scL n m = true → scL n (jKu l m) = true
 | [], m, _, h => h
 | p :: r, m, h, k => by
  simp only [scL, Bool.and_eq_true] at h
  simp only [jKu]
  exact jFu (Nat.le_of_ble_eq_true h.1) (jFi h.2 k)
theorem jCt {n : Nat} {k : Int} : ∀ {l : List (Nat × Int)}, scL n l = true → scL n (jAp k l) = true
 | [], _ => rfl
 | p :: r, h => by
  simp only [scL, Bool.and_eq_true] at h
  simp only [jAp, xM, scL, Bool.and_eq_true]
  exact ⟨h.1, jCt h.2⟩
theorem jGu {n m : Nat} (h : n ≤ m) : ∀ {l : List (Nat × Int)}, scL n l = true → scL m l = true
 | [], _ => rfl
 | p :: r, k => by
  simp only [scL, Bool.and_eq_true] at k ⊢
  exact ⟨Nat.ble_eq_true_of_le (Nat.le_trans (Nat.le_of_ble_eq_true k.1) h), jGu h k.2⟩
theorem yG {n : Nat} (c : Int) : (LT.con c).sc n = true := rfl
theorem gC {n v : Nat} (h : v < n) : (LT.var v).sc n = true := by simp only [LT.var, LT.sc, scL, Bool.and_true]; exact Nat.ble_eq_true_of_le h
theorem qAx {n : Nat} {s t : LT} (h : s.sc n = true) (k : t.sc n = true) : (s.add t).sc n = true := by simp only [LT.add, xM, LT.sc]; exact jFi h k
theorem eO {n : Nat} {k : Int} {t : LT} (h : t.sc n = true) : (t.smul k).sc n = true := by
 unfold LT.smul
 cases isZ k with
 | true => rfl
 | false => simp only [cond_false, xM, LT.sc]; exact jCt h
theorem tY {n : Nat} {s t : LT} (h : s.sc n = true) (k : t.sc n = true) : (s.sub t).sc n = true := qAx h (eO k)
theorem oW {n : Nat} {t : LT} (h : t.sc n = true) : (t.neg).sc n = true := eO h
theorem wV {n : Nat} {k : Int} {t : LT} (h : t.sc n = true) : (t.addc k).sc n = true := by simp only [LT.addc, xM, LT.sc]; exact h
theorem jK {n m : Nat} (h : n ≤ m) {t : LT} (k : t.sc n = true) : t.sc m = true := jGu h k
theorem Gn.agree {ρ ρ' : Rho} {n : Nat} (ag : ∀ k, k < n → ρ' k = ρ k) {g : Gn} (h : g.sc n = true) : g.den ρ' = g.den ρ := by
 obtain ⟨v, o⟩ := g
 cases v with
 | zero => rfl
 | succ j => simp only [Gn.den]; rw [ag j (Nat.le_of_ble_eq_true h)]
theorem Gn.mono {n m : Nat} (h : n ≤ m) {g : Gn} (k : g.sc n = true) : g.sc m = true := Nat.ble_eq_true_of_le (Nat.le_trans (Nat.le_of_ble_eq_true k) h)
mutual
theorem SX.agree {ρ ρ' : Rho} {n : Nat} (ag : ∀ k, k < n → ρ' k = ρ k) : ∀ {x : SX}, x.sc n = true → x.den ρ' = x.den ρ
 | .b _, _ => rfl
 | .bv t, h => by simp only [SX.den, jR ag (t := t) h]
 | .i k t, h => by simp only [SX.den, jR ag (t := t) h]
 | .s a c, h => by simp only [SX.sc, Bool.and_eq_true] at h; simp only [SX.den, jR ag h.1, jR ag h.2]
 | .p0, _ => rfl
 | .sl0, _ => rfl
 | .tp i g o, h => by simp only [SX.den, Gn.agree ag (g := g) h]
 | .te i g k o, h => by simp only [SX.sc, Bool.and_eq_true] at h; simp only [SX.den, Gn.agree ag h.1, jR ag h.2]
 | .ts i g k o, h => by simp only [SX.sc, Bool.and_eq_true] at h; simp only [SX.den, Gn.agree ag h.1, jR ag h.2]
 | .q T r k, h => by simp only [SX.sc, Bool.and_eq_true] at h; simp only [SX.den, jR ag h.1, jR ag h.2]
 | .qp T r o, h => by simp only [SX.den, jR ag (t := r) h]
 | .qs j, h => by simp only [SX.den, ag j (Nat.le_of_ble_eq_true h)]
 | .xs a c, h => by simp only [SX.sc, Bool.and_eq_true] at h; simp only [SX.den, jR ag h.1, jR ag h.2]
 | .f fn a c, h => by simp only [SX.sc, Bool.and_eq_true] at h; simp only [SX.den, zR ag h.1, zR ag h.2]
 | .agg l, h => by simp only [SX.den, zR ag (l := l) h]
 | .tup l, h => by simp only [SX.den, zR ag (l := l) h]
 | .fis t, h => by simp only [SX.den, jR ag (t := t) h]
 | .fqs, _ => rfl
theorem zR {ρ ρ' : Rho} {n : Nat} (ag : ∀ k, k < n → ρ' k = ρ k) : ∀ {l : List SX}, scs n l = true → jW ρ' l = jW ρ l
 | [], _ => rfl
 | x :: l, h => by simp only [scs, Bool.and_eq_true] at h; simp only [jW, SX.agree ag h.1, zR ag h.2]
end
mutual
theorem SX.mono {n m : Nat} (h : n ≤ m) : ∀ {x : SX}, x.sc n = true → x.sc m = true
 | .b _, _ => rfl
 | .bv t, k => jK h k
 | .i _ t, k => jK h k
 | .s a c, k => by simp only [SX.sc, Bool.and_eq_true] at k ⊢; exact ⟨jK h k.1, jK h k.2⟩
 | .p0, _ => rfl
 | .sl0, _ => rfl
 | .tp i g o, k => Gn.mono h k
 | .te i g j o, k => by simp only [SX.sc, Bool.and_eq_true] at k ⊢; exact ⟨Gn.mono h k.1, jK h k.2⟩
 | .ts i g j o, k => by simp only [SX.sc, Bool.and_eq_true] at k ⊢; exact ⟨Gn.mono h k.1, jK h k.2⟩
 | .q T r j, k => by simp only [SX.sc, Bool.and_eq_true] at k ⊢; exact ⟨jK h k.1, jK h k.2⟩
 | .qp T r o, k => jK h k
 | .qs j, k => Nat.ble_eq_true_of_le (Nat.le_trans (Nat.le_of_ble_eq_true k) h)
 | .xs a c, k => by simp only [SX.sc, Bool.and_eq_true] at k ⊢; exact ⟨jK h k.1, jK h k.2⟩
 | .f fn a c, k => by simp only [SX.sc, Bool.and_eq_true] at k ⊢; exact ⟨xV h k.1, xV h k.2⟩
 | .agg l, k => xV h k
 | .tup l, k => xV h k
 | .fis t, k => jK h k
 | .fqs, _ => rfl
theorem xV {n m : Nat} (h : n ≤ m) : ∀ {l : List SX}, scs n l = true → scs m l = true
 | [], _ => rfl
 | x :: l, k => by simp only [scs, Bool.and_eq_true] at k ⊢; exact ⟨SX.mono h k.1, xV h k.2⟩
end
theorem HCX.agree {ρ ρ' : Rho} {n : Nat} (ag : ∀ k, k < n → ρ' k = ρ k) {c : HCX} (h : c.sc n = true) : c.den ρ' = c.den ρ := by
 cases c with
 | l m => simp only [HCX.den, zR ag (l := m) h]
 | r T R k => simp only [HCX.sc, Bool.and_eq_true] at h; simp only [HCX.den, jR ag h.1, jR ag h.2]
 | xs j => simp only [HCX.den, ag j (Nat.le_of_ble_eq_true h)]
 | rl T R k m => simp only [HCX.sc, Bool.and_eq_true] at h; simp only [HCX.den, jR ag h.1, jR ag h.2.1, zR ag (l := m) h.2.2]
 | dead => rfl
theorem HCX.mono {n m : Nat} (h : n ≤ m) {c : HCX} (k : c.sc n = true) : c.sc m = true := by
 cases c with
 | l l => exact xV h k
 | r T R j => simp only [HCX.sc, Bool.and_eq_true] at k ⊢; exact ⟨jK h k.1, jK h k.2⟩
 | xs j => exact Nat.ble_eq_true_of_le (Nat.le_trans (Nat.le_of_ble_eq_true k) h)
 | rl T R j m => simp only [HCX.sc, Bool.and_eq_true] at k ⊢; exact ⟨jK h k.1, jK h k.2.1, xV h k.2.2⟩
 | dead => rfl
theorem zP {ρ ρ' : Rho} {n : Nat} (ag : ∀ k, k < n → ρ' k = ρ k) : ∀ {H : List HX}, scH n H = true → denH ρ' H = denH ρ H
 | [], _ => rfl
 | x :: l, h => by
  simp only [scH, Bool.and_eq_true] at h
  have := zP ag h.2.2
  simp only [denH, List.map_cons, HX.den, Gn.agree ag h.1, HCX.agree ag h.2.1] at this ⊢
  rw [this]
theorem uG {n m : Nat} (h : n ≤ m) : ∀ {H : List HX}, scH n H = true → scH m H = true
 | [], _ => rfl
 | x :: l, k => by simp only [scH, Bool.and_eq_true] at k ⊢; exact ⟨Gn.mono h k.1, HCX.mono h k.2.1, uG h k.2.2⟩
theorem yM {ρ ρ' : Rho} {n : Nat} (ag : ∀ k, k < n → ρ' k = ρ k) : ∀ {E : EX}, scE n E = true → denE ρ' E = denE ρ E
 | [], _ => rfl
 | x :: l, h => by simp only [scE, Bool.and_eq_true] at h; simp only [denE, SX.agree ag h.1, yM ag h.2]
theorem rJ {n m : Nat} (h : n ≤ m) : ∀ {E : EX}, scE n E = true → scE m E = true
 | [], _ => rfl
 | x :: l, k => by simp only [scE, Bool.and_eq_true] at k ⊢; exact ⟨SX.mono h k.1, rJ h k.2⟩
theorem sI {n : Nat} : ∀ {l : List LT}, scF n l = true ↔ ∀ t, t ∈ l → t.sc n = true
 | [] => by simp [scF]
 | x :: l => by simp [scF, Bool.and_eq_true, sI (l := l)]
theorem eJ {n : Nat} : ∀ {l : List TE}, scB n l = true ↔ ∀ t, t ∈ l → t.sc n = true
 | [] => by simp [scB]
 | x :: l => by simp [scB, Bool.and_eq_true, eJ (l := l)]
theorem rA {n : Nat} : ∀ {l : List SX}, scs n l = true ↔ ∀ t, t ∈ l → t.sc n = true
 | [] => by simp [scs]
 | x :: l => by simp [scs, Bool.and_eq_true, rA (l := l)]
def TE.holds (G : Nat → List SV → SV → Prop) (ρ : Rho) : TE → Prop
 | .by_ c t r => byZ (c.ev ρ).toNat (t.ev ρ) = r.ev ρ
 | .el j t n c => (ρ j).l[(t.ev ρ).toNat]? = some ((n.ev ρ).toNat, (c.ev ρ).toNat)
 | .ln j n m => ((ρ j).l.length : Int) = n.ev ρ ∧ ∀ p, p ∈ (ρ j).l → (p.1 : Int) ≤ m.ev ρ
 | .ca f a r => G f (jW ρ a) (r.den ρ)
 | .dv a b q => a.ev ρ / b = q.ev ρ
theorem TE.agree {G : Nat → List SV → SV → Prop} {ρ ρ' : Rho} {n : Nat} (ag : ∀ k, k < n → ρ' k = ρ k) {t : TE} (h : t.sc n = true) : t.holds G ρ' ↔ t.holds G ρ := by
 cases t with
 | by_ c i r => simp only [TE.sc, Bool.and_eq_true] at h; simp only [TE.holds, jR ag h.1, jR ag h.2.1, jR ag h.2.2]
 | el j i a c => simp only [TE.sc, Bool.and_eq_true] at h; simp only [TE.holds, ag j (Nat.le_of_ble_eq_true h.1), jR ag h.2.1, jR ag h.2.2.1, jR ag h.2.2.2]
 | ln j a m => simp only [TE.sc, Bool.and_eq_true] at h; simp only [TE.holds, ag j (Nat.le_of_ble_eq_true h.1), jR ag h.2.1, jR ag h.2.2]
 | ca f a r => simp only [TE.sc, Bool.and_eq_true] at h; simp only [TE.holds, zR ag h.1, SX.agree ag h.2]
 | dv a b q => simp only [TE.sc, Bool.and_eq_true] at h; simp only [TE.holds, jR ag h.1, jR ag h.2]
theorem TE.mono {n m : Nat} (h : n ≤ m) {t : TE} (k : t.sc n = true) : t.sc m = true := by
 have lt : ∀ {j : Nat}, Nat.blt j n = true → Nat.blt j m = true := fun k => Nat.ble_eq_true_of_le (Nat.le_trans (Nat.le_of_ble_eq_true k) h)
 cases t with
 | by_ c i r => simp only [TE.sc, Bool.and_eq_true] at k ⊢; exact ⟨jK h k.1, jK h k.2.1, jK h k.2.2⟩
 | el j i a c => simp only [TE.sc, Bool.and_eq_true] at k ⊢; exact ⟨lt k.1, jK h k.2.1, jK h k.2.2.1, jK h k.2.2.2⟩
 | ln j a m => simp only [TE.sc, Bool.and_eq_true] at k ⊢; exact ⟨lt k.1, jK h k.2.1, jK h k.2.2⟩
 | ca f a r => simp only [TE.sc, Bool.and_eq_true] at k ⊢; exact ⟨xV h k.1, SX.mono h k.2⟩
 | dv a b q => simp only [TE.sc, Bool.and_eq_true] at k ⊢; exact ⟨jK h k.1, jK h k.2⟩
structure Inv (G : Nat → List SV → SV → Prop) (ρ : Rho) (st : Sx) : Prop where
 e : scE st.n st.E = true
 h : scH st.n st.H = true
 f : ∀ t, t ∈ st.F → t.sc st.n = true
 n : ∀ t, t ∈ st.N → t.sc st.n = true
 b : ∀ t, t ∈ st.B → t.sc st.n = true
 F : ∀ t, t ∈ st.F → 0 ≤ t.ev ρ
 N : ∀ t, t ∈ st.N → t.ev ρ ≠ 0
 B : ∀ t, t ∈ st.B → t.holds G ρ
structure Nx (G : Nat → List SV → SV → Prop) (ρ : Rho) (st : Sx) (ρ' : Rho) (st' : Sx) : Prop where
 n : st.n ≤ st'.n
 ag : ∀ k, k < st.n → ρ' k = ρ k
 E : st'.E = st.E
 H : st'.H = st.H
 inv : Inv G ρ' st'
section
variable {G : Nat → List SV → SV → Prop} {ρ ρ' ρ2 : Rho} {st st' st2 : Sx}
theorem Nx.refl (h : Inv G ρ st) : Nx G ρ st ρ st := ⟨Nat.le_refl _, fun _ _ => rfl, rfl, rfl, h⟩
theorem Nx.trans (h : Nx G ρ st ρ' st') (k : Nx G ρ' st' ρ2 st2) : Nx G ρ st ρ2 st2 :=
 ⟨Nat.le_trans h.n k.n, fun j hj => (k.ag j (Nat.lt_of_lt_of_le hj h.n)).trans (h.ag j hj), k.E.trans h.E, k.H.trans h.H, k.inv⟩
theorem Nx.sx (h : Nx G ρ st ρ' st') {x : SX} (k : x.sc st.n = true) : x.den ρ' = x.den ρ := SX.agree h.ag k
theorem Nx.lt (h : Nx G ρ st ρ' st') {x : LT} (k : x.sc st.n = true) : x.ev ρ' = x.ev ρ := jR h.ag k
theorem Nx.denE (h : Nx G ρ st ρ' st') (hi : Inv G ρ st) : denE ρ' st'.E = denE ρ st.E := by rw [h.E]; exact yM h.ag hi.e
theorem Nx.denH (h : Nx G ρ st ρ' st') (hi : Inv G ρ st) : denH ρ' st'.H = denH ρ st.H := by rw [h.H]; exact zP h.ag hi.h
theorem Inv.addF (h : Inv G ρ st) {t : LT} (hs : t.sc st.n = true) (hp : 0 ≤ t.ev ρ) : Nx G ρ st ρ (st.addF t) :=
 ⟨Nat.le_refl _, fun _ _ => rfl, rfl, rfl, h.e, h.h, fun x hx => by rcases List.mem_cons.1 hx with rfl | hx; exact hs; exact h.f x hx, h.n, h.b, fun x hx => by rcases List.mem_cons.1 hx with rfl | hx; exact hp; exact h.F x hx, h.N, h.B⟩
theorem Inv.addN (h : Inv G ρ st) {t : LT} (hs : t.sc st.n = true) (hp : t.ev ρ ≠ 0) : Nx G ρ st ρ (st.addN t) :=
 ⟨Nat.le_refl _, fun _ _ => rfl, rfl, rfl, h.e, h.h, h.f, fun x hx => by rcases List.mem_cons.1 hx with rfl | hx; exact hs; exact h.n x hx, h.b, h.F, fun x hx => by rcases List.mem_cons.1 hx with rfl | hx; exact hp; exact h.N x hx, h.B⟩
theorem Inv.addB (h : Inv G ρ st) {t : TE} (hs : t.sc st.n = true) (hp : t.holds G ρ) : Nx G ρ st ρ (st.addB t) :=
 ⟨Nat.le_refl _, fun _ _ => rfl, rfl, rfl, h.e, h.h, h.f, h.n, fun x hx => by rcases List.mem_cons.1 hx with rfl | hx; exact hs; exact h.b x hx, h.F, h.N, fun x hx => by rcases List.mem_cons.1 hx with rfl | hx; exact hp; exact h.B x hx⟩
theorem Inv.addFs (h : Inv G ρ st) : ∀ {l : List LT}, (∀ t, t ∈ l → t.sc st.n = true ∧ 0 ≤ t.ev ρ) → Nx G ρ st ρ (addFs st l)
 | [], _ => Nx.refl h
 | t :: r, k => by
  have h1 := Inv.addFs h (l := r) fun t ht => k t (List.mem_cons_of_mem _ ht)
  obtain ⟨k1, k2⟩ := k t (List.mem_cons_self ..)
  exact h1.trans (h1.inv.addF (jK h1.n k1) k2)
def Rho.set (ρ : Rho) (n : Nat) (x : Rv) : Rho := fun k => if k = n then x else ρ k
theorem Inv.up (h : Inv G ρ st) {ρ' : Rho} {m : Nat} (hm : st.n ≤ m) (ag : ∀ k, k < st.n → ρ' k = ρ k) : Nx G ρ st ρ' (st.up m) :=
 ⟨hm, ag, rfl, rfl, rJ hm h.e, uG hm h.h, fun t ht => jK hm (h.f t ht), fun t ht => jK hm (h.n t ht), fun t ht => TE.mono hm (h.b t ht),
  fun t ht => by rw [jR ag (h.f t ht)]; exact h.F t ht, fun t ht => by rw [jR ag (h.n t ht)]; exact h.N t ht, fun t ht => (TE.agree ag (h.b t ht)).2 (h.B t ht)⟩
theorem zK {k : LT → Sx → An} (h : ok (fresh st k)) (hi : Inv G ρ st) (x : Rv) : Nx G ρ st (ρ.set st.n x) (st.up (st.n + 1)) ∧ (ρ.set st.n x) st.n = x ∧ ok (k (.var st.n) (st.up (st.n + 1))) := by
 unfold fresh at h
 rw [zQ] at h
 exact ⟨hi.up (Nat.le_succ _) fun k hk => by unfold Rho.set; rw [if_neg (by omega)], by simp [Rho.set], h⟩
theorem jG {t : LT} {r : An} (h : ok (ask st t r)) (hi : Inv G ρ st) : 0 ≤ t.ev ρ ∧ ok r := by
 unfold ask at h
 split at h
 ·rename_i e
  obtain ⟨h1, h2⟩ := jD h
  have := gL h1
  exact ⟨by simp only [LT.ev, e, evL]; omega, h2⟩
 ·obtain ⟨c, h⟩ := nB h
  obtain ⟨h1, h2⟩ := jD h
  exact ⟨jKv hi.F h1, h2⟩
theorem sD : ∀ {l : List LT} {r : An}, ok (jJi st l r) → Inv G ρ st → (∀ t, t ∈ l → 0 ≤ t.ev ρ) ∧ ok r
 | [], r, h, hi => ⟨fun t ht => (by cases ht), h⟩
 | t :: l, r, h, hi => by
  obtain ⟨h1, h2⟩ := jG (r := jJi st l r) h hi
  obtain ⟨h3, h4⟩ := sD h2 hi
  exact ⟨fun x hx => by rcases List.mem_cons.1 hx with rfl | hx; exact h1; exact h3 x hx, h4⟩
theorem jJm {k : Sx → An} : ∀ {n c : Nat} {t : LT}, ok (eV st t k n c) → Inv G ρ st → 0 ≤ t.ev ρ → ∃ st', Nx G ρ st ρ st' ∧ ok (k st') := by
 intro n
 induction n with
 | zero =>
  intro c t h hi hp
  obtain ⟨h1, h2⟩ := jD h
  exact ⟨_, hi.addF h1 hp, h2⟩
 | succ n ih =>
  intro c t h hi hp
  simp only [eV] at h
  split at h
  ·obtain ⟨h1, h2⟩ := jD h
   exact ⟨_, hi.addF h1 hp, h2⟩
  ·exact ⟨st, Nx.refl hi, h⟩
  ·obtain ⟨h1, _⟩ := jD h
   have := jKv hi.F h1
   rw [jSr] at this
   omega
  ·rw [qJ] at h
   split at h
   ·rename_i d hd
    obtain ⟨h1, h2⟩ := jD h
    have hn := hi.N d (List.mem_of_getElem? hd)
    obtain ⟨c', h2⟩ := nB h2
    have ht : t.ev ρ ≠ 0 := by
     rw [Bool.or_eq_true] at h1
     rcases h1 with h1 | h1
     ·rw [← LT.beq_ok h1]; exact hn
     ·have := LT.beq_ok h1
      rw [← this, zC]; omega
    exact ih h2 hi (by rw [jO]; omega)
   ·exact (jE h).elim
theorem qE {k : Sx → An} {t : LT} (h : ok (zT st t k)) (hi : Inv G ρ st) (hp : 0 ≤ t.ev ρ) : ∃ st', Nx G ρ st ρ st' ∧ ok (k st') := by
 unfold zT at h
 split at h
 ·rename_i e
  rw [jLb] at h
  have : 0 ≤ t.c := by simp only [LT.ev, e, evL] at hp; omega
  rw [decide_eq_true this] at h
  exact ⟨st, Nx.refl hi, h⟩
 ·obtain ⟨c, h⟩ := nB h
  exact jJm h hi hp
theorem sX {k : Bool → Sx → An} {t : LT} (h : ok (xge st t k)) (hi : Inv G ρ st) : ∃ st', Nx G ρ st ρ st' ∧ ok (k (decide (0 ≤ t.ev ρ)) st') := by
 unfold xge at h
 split at h
 ·rename_i e
  have : t.c = t.ev ρ := by simp only [LT.ev, e, evL]; omega
  rw [jLb, this] at h
  exact ⟨st, Nx.refl hi, h⟩
 ·obtain ⟨h1, h2⟩ := uJ h
  by_cases q : 0 ≤ t.ev ρ
  ·rw [decide_eq_true q]; exact qE h1 hi q
  ·rw [decide_eq_false q]; exact qE h2 hi (by rw [jSr]; omega)
theorem jKo {d : LT} : ∀ {l : List LT}, inN d l = true → (∀ t, t ∈ l → t.ev ρ ≠ 0) → d.ev ρ ≠ 0
 | [], h, _ => by simp [inN] at h
 | x :: r, h, k => by
  simp only [inN, Bool.or_eq_true] at h
  rcases h with h | h | h
  ·rw [LT.beq_ok h]; exact k x (List.mem_cons_self ..)
  ·have := LT.beq_ok h
   have h2 := k x (List.mem_cons_self ..)
   rw [← this, zC] at h2; omega
  ·exact jKo h fun t ht => k t (List.mem_cons_of_mem _ ht)
theorem jNe {k : Sx → An} {d : LT} (h : ok (jXj st d k)) (hi : Inv G ρ st) (hp : d.ev ρ ≠ 0) : ∃ st', Nx G ρ st ρ st' ∧ ok (k st') := by
 unfold jXj at h
 split at h
 ·rename_i e
  have hc : d.c ≠ 0 := by simp only [LT.ev, e, evL] at hp; omega
  rw [vS, decide_eq_false hc] at h
  exact ⟨st, Nx.refl hi, h⟩
 ·obtain ⟨j, a, hj, ha, h⟩ := bM h
  split at h
  ·simp at hj; subst hj
   obtain ⟨h1, _⟩ := jG ha hi
   exact qE h hi (by rw [jO]; omega)
  ·simp at hj; subst hj
   obtain ⟨h1, _⟩ := jG ha hi
   rw [zC] at h1
   exact qE h hi (by rw [jO, zC]; omega)
  ·obtain ⟨h1, h2⟩ := jD h
   exact ⟨_, hi.addN h1 hp, h2⟩
theorem jRt {k : Bool → Sx → An} {d : LT} (h : ok (xeq st d k)) (hi : Inv G ρ st) : ∃ st', Nx G ρ st ρ st' ∧ ok (k (decide (d.ev ρ = 0)) st') := by
 unfold xeq at h
 split at h
 ·rename_i e
  have : d.c = d.ev ρ := by simp only [LT.ev, e, evL]; omega
  rw [vS, this] at h
  exact ⟨st, Nx.refl hi, h⟩
 ·rcases zO h with ⟨h1, h⟩ | ⟨_, h⟩
  ·rw [decide_eq_false (jKo h1 hi.N)]
   exact ⟨st, Nx.refl hi, h⟩
  ·obtain ⟨h1, h2⟩ := uJ h
   by_cases q : d.ev ρ = 0
   ·rw [decide_eq_true q]
    obtain ⟨s1, n1, h1⟩ := qE h1 hi (by omega)
    obtain ⟨s2, n2, h1⟩ := qE h1 n1.inv (by rw [zC]; omega)
    exact ⟨s2, n1.trans n2, h1⟩
   ·rw [decide_eq_false q]; exact jNe h2 hi q
theorem qP {a b : LT} {r : An} (h : ok (vM st a b r)) (hi : Inv G ρ st) : a.ev ρ = b.ev ρ ∧ ok r := by
 unfold vM at h
 rcases zO h with ⟨h1, h⟩ | ⟨_, h⟩
 ·rw [LT.beq_ok h1]; exact ⟨rfl, h⟩
 ·obtain ⟨h1, h⟩ := jG h hi
  obtain ⟨h2, h⟩ := jG h hi
  rw [qA] at h1 h2
  exact ⟨by omega, h⟩
theorem xX : ∀ {E : EX} {n : Nat}, look (denE ρ E) n = (yN E n).map (SX.den ρ)
 | [], n => rfl
 | p :: l, n => by
  simp only [denE, look, lF]
  cases Nat.beq p.1 n with
  | true => rfl
  | false => simpa using xX (E := l)
theorem uF {m : Nat} : ∀ {E : EX} {n : Nat} {v : SX}, scE m E = true → yN E n = some v → v.sc m = true
 | [], n, v, h, e => by cases e
 | p :: l, n, v, h, e => by
  simp only [scE, Bool.and_eq_true] at h
  simp only [lF] at e
  cases hb : Nat.beq p.1 n with
  | true => rw [hb] at e; simp at e; subst e; exact h.1
  | false => rw [hb] at e; exact uF h.2 e
mutual
theorem jMq : ∀ (v : AV), okA v = true → (ofX v).den ρ = ofA v
 | .b _, _ => rfl
 | .i _ n, _ => by simp [ofX, SX.den, ofA]
 | .s n v, _ => by simp [ofX, SX.den, ofA]
 | .p0, _ => rfl
 | .sl0, _ => rfl
 | .agg l, h => by simp only [ofX, SX.den, ofA, fC l h]
 | .tup l, h => by simp only [ofX, SX.den, ofA, fC l h]
 | .p _ _, k => by simp [okA] at k
 | .sl _ _ _ _, k => by simp [okA] at k
 | .f0, k => by simp [okA] at k
 | .f _ a c, k => by
  simp only [okA, Bool.and_eq_true] at k
  simp only [ofX, SX.den, ofA, fC a k.1, fC c k.2]
 | .ni, k => by simp [okA] at k
 | .ifc _ _, k => by simp [okA] at k
 | .m _, k => by simp [okA] at k
 | .mp _, k => by simp [okA] at k
 | .ifx, k => by simp [okA] at k
 | .mr _ _ _ _, k => by simp [okA] at k
 | .fs _ _ _ _, k => by simp [okA] at k
 | .fi _, k => by simp [okA] at k
 | .fq _, k => by simp [okA] at k
 | .sm _, k => by simp [okA] at k
theorem fC : ∀ (l : List AV), kF l = true → jW ρ (sR l) = ofAs l
 | [], _ => rfl
 | a :: l, h => by
  simp only [kF, Bool.and_eq_true] at h
  simp only [sR, jW, ofAs, jMq a h.1, fC l h.2]
end
mutual
theorem jRo {n : Nat} : ∀ (v : AV), (ofX v).sc n = true
 | .b _ => rfl
 | .i _ _ => rfl
 | .s _ _ => rfl
 | .p0 => rfl
 | .sl0 => rfl
 | .agg l => rZ l
 | .tup l => rZ l
 | .p _ _ => rfl
 | .sl _ _ _ _ => rfl
 | .f0 => rfl
 | .f _ a c => by simp only [ofX, SX.sc, rZ a, rZ c, Bool.and_self]
 | .ni => rfl
 | .ifc _ _ => rfl
 | .m _ => rfl
 | .mp _ => rfl
 | .ifx => rfl
 | .mr _ _ _ _ => rfl
 | .fs _ _ _ _ => rfl
 | .fi _ => rfl
 | .fq _ => rfl
 | .sm _ => rfl
theorem rZ {n : Nat} : ∀ (l : List AV), scs n (sR l) = true
 | [] => rfl
 | a :: l => by simp only [sR, scs, Bool.and_eq_true]; exact ⟨jRo a, rZ l⟩
end
theorem zB {x : X} {k : SX → An} {P : P1} (h : ok (xv st x k)) (hi : Inv G ρ st) (hk : ∀ v, v.sc st.n = true → ok (k v) → P (v.den ρ)) : vx (denE ρ st.E) x P := by
 cases x with
 | k v =>
  obtain ⟨h1, h2⟩ := jD h
  simp only [vx, h1, req]
  rw [← jMq (ρ := ρ) v h1]
  exact hk _ (jRo v) h2
 | t n =>
  simp only [xv] at h
  simp only [vx, wM, xX]
  split at h
  ·rename_i v e
   rw [e]
   exact hk v (uF hi.e e) h
  ·exact (jE h).elim
theorem nW : ∀ {l : List X} {k : List SX → An} {P : List SV → Prop}, ok (xvs st l k) → Inv G ρ st → (∀ v, scs st.n v = true → ok (k v) → P (jW ρ v)) → vxs (denE ρ st.E) l P
 | [], k, P, h, hi, hk => hk [] rfl h
 | x :: r, k, P, h, hi, hk => zB (P := fun v => vxs (denE ρ st.E) r fun l => P (v :: l)) h hi fun v hv h => nW h hi fun l hl h => hk (v :: l) (by simp only [scs, Bool.and_eq_true]; exact ⟨hv, hl⟩) h
end
end
end Go.Proofs.YthfmepmchaofjaaGreat.Ev.Rf
end
section
set_option linter.all false
namespace Go.Proofs.YthfmepmchaofjaaGreat.Ev.Rf
noncomputable section
open Go
section
variable {G : Nat → List SV → SV → Prop} {ρ ρ' ρ2 : Rho} {st st' st2 : Sx}
def HK (G : Nat → List SV → SV → Prop) (ρ : Rho) (st : Sx) (k : K1) (Q : P1) : Prop := ∀ v st' ρ', Nx G ρ st ρ' st' → ok (k v st') → Q (v.den ρ')
theorem HK.go {k : K1} {Q : P1} (h : HK G ρ st k Q) (n : Nx G ρ st ρ' st') : HK G ρ' st' k Q := fun v st2 ρ2 m h2 => h v st2 ρ2 (n.trans m) h2
theorem HK.now {k : K1} {Q : P1} (h : HK G ρ st k Q) (hi : Inv G ρ st) {v : SX} (h2 : ok (k v st)) : Q (v.den ρ) := h v st ρ (Nx.refl hi) h2
theorem jDl {k : IntKind} {t : LT} (h : ∀ f, f ∈ jDp k t → 0 ≤ f.ev ρ) : rng k (t.ev ρ) := by
 cases k <;> simp [jDp] at h <;> simp only [rng] <;> omega
theorem jXi {k : IntKind} {t : LT} {n : Nat} (hk : okK k = true) (h : rng k (t.ev ρ)) (hs : t.sc n = true) : ∀ f, f ∈ jDp k t → f.sc n = true ∧ 0 ≤ f.ev ρ := by
 cases k <;> simp only [okK, Bool.false_eq_true] at hk <;> simp only [rng] at h <;> intro f hf <;> simp only [jDp, List.mem_cons, List.not_mem_nil, or_false] at hf <;> rcases hf with rfl | rfl <;>
  first
  | exact ⟨wV hs, by rw [jO]; omega⟩
  | exact ⟨wV (oW hs), by rw [jO, zC]; omega⟩
  | exact ⟨hs, by omega⟩
theorem sA {k : IntKind} {Q' : K1} {Q : P1} (h : ok (jOt k st Q')) (hi : Inv G ρ st) (hk : HK G ρ st Q' Q) : jGl k Q := by
 obtain ⟨h1, h2⟩ := jD h
 simp only [jGl, h1, req]
 intro m hm
 obtain ⟨n1, e, h3⟩ := zK h2 hi ⟨m, [], 0⟩
 have n2 := n1.inv.addFs (l := jDp k (.var st.n)) (jXi h1 (by rw [qG, e]; exact hm) (gC (Nat.lt_succ_self _)))
 have := hk _ _ _ (n1.trans n2) h3
 simp only [SX.den, qG, e] at this
 exact this
theorem mE {k : IntKind} {t : LT} {Q' : K1} {Q : P1} (h : ok (jJe k t st Q')) (hi : Inv G ρ st) (hk : HK G ρ st Q' Q) : rng k (t.ev ρ) ∧ Q (.i k (t.ev ρ)) := by
 obtain ⟨h1, h2⟩ := sD h hi
 exact ⟨jDl h1, hk.now hi h2⟩
theorem jKs {p : Prop} [Decidable p] {Q : P1} (h : Q (.b (decide p))) : spl p Q := ⟨fun q => by rwa [decide_eq_true q] at h, fun q => by rwa [decide_eq_false q] at h⟩
theorem jLo {p : Prop} [Decidable p] {Q : P1} (h : Q (.b (!decide p))) : jXp p Q := ⟨fun q => by rwa [decide_eq_false q] at h, fun q => by rwa [decide_eq_true q] at h⟩
theorem lR {p q : Prop} [Decidable p] [Decidable q] (h : p ↔ q) : decide p = decide q := by simp [h]
theorem eM {t : LT} {p : Prop} [Decidable p] {Q' : K1} {Q : P1} (hp : 0 ≤ t.ev ρ ↔ p) (h : ok (xge st t fun r st => Q' (.b r) st)) (hi : Inv G ρ st) (hk : HK G ρ st Q' Q) : spl p Q := by
 obtain ⟨s1, n1, h⟩ := sX h hi
 rw [lR hp] at h
 exact jKs (hk _ _ _ n1 h)
theorem tG {a : LT} {b : Int} {q : LT} : ∀ {B : List TE}, oQ a b B = some q → (.dv a b q : TE) ∈ B
 | [], h => by cases h
 | t :: r, h => by
  simp only [oQ] at h
  split at h
  ·rename_i a' b' q'
   cases e : (a'.beq a && eqI b' b) with
   | true =>
    rw [e] at h
    simp at h
    subst h
    rw [Bool.and_eq_true] at e
    rw [← LT.beq_ok e.1, ← jDu e.2]
    exact List.mem_cons_self ..
   | false => rw [e] at h; exact List.mem_cons_of_mem _ (tG h)
  ·exact List.mem_cons_of_mem _ (tG h)
theorem jUi {a b : LT} {k : LT → Sx → An} (h : ok (xDv a b st k)) (hi : Inv G ρ st) : 0 ≤ a.ev ρ ∧ 0 < b.ev ρ ∧ ∃ q ρ' st', Nx G ρ st ρ' st' ∧ q.ev ρ' = a.ev ρ / b.ev ρ ∧ a.ev ρ' = a.ev ρ ∧ b.c = b.ev ρ ∧ ok (k q st') := by
 obtain ⟨e, h⟩ := jD h
 simp only [Bool.and_eq_true, decide_eq_true_eq] at e
 obtain ⟨e1, e2, e3⟩ := e
 obtain ⟨h1, h⟩ := jG h hi
 have eb := wJ e1 ρ
 split at h
 ·rename_i q e
  have := hi.B _ (tG e)
  simp only [TE.holds] at this
  exact ⟨h1, by omega, q, ρ, st, Nx.refl hi, by rw [← this, eb], rfl, eb.symm, h⟩
 obtain ⟨n1, q, h⟩ := zK h hi ⟨a.ev ρ / b.ev ρ, [], 0⟩
 have sv : (LT.var st.n).sc (st.n + 1) = true := gC (Nat.lt_succ_self _)
 have sa : a.sc (st.n + 1) = true := jK (Nat.le_succ _) e3
 have d1 := Int.mul_ediv_add_emod (a.ev ρ) (b.ev ρ)
 have d2 := Int.emod_nonneg (a.ev ρ) (b := b.ev ρ) (by omega)
 have d3 := Int.emod_lt_of_pos (a.ev ρ) (b := b.ev ρ) (by omega)
 have n2 := n1.inv.addFs (l := [.var st.n, a.sub ((LT.var st.n).smul b.c), (((LT.var st.n).smul b.c).sub a).addc (b.c - 1)]) (by
  intro t ht
  simp only [List.mem_cons, List.not_mem_nil, or_false] at ht
  rcases ht with rfl | rfl | rfl
  ·exact ⟨sv, by rw [qG, q]; exact Int.ediv_nonneg h1 (by omega)⟩
  ·exact ⟨tY sa (eO sv), by rw [qA, uK, qG, q, n1.lt e3, ← eb]; show 0 ≤ _ - b.ev ρ * (a.ev ρ / b.ev ρ); omega⟩
  ·exact ⟨wV (tY (eO sv) sa), by rw [jO, qA, uK, qG, q, n1.lt e3, ← eb]; show 0 ≤ b.ev ρ * (a.ev ρ / b.ev ρ) - _ + (b.ev ρ - 1); omega⟩)
 have n3 := n2.inv.addB (t := .dv a b.c (.var st.n)) (by simp only [TE.sc, Bool.and_eq_true]; exact ⟨sa, sv⟩) (by show a.ev _ / b.c = (LT.var st.n).ev _; rw [qG, q, n1.lt e3, eb])
 exact ⟨h1, by omega, .var st.n, _, _, (n1.trans n2).trans n3, by rw [qG, q], n1.lt e3, eb.symm, h⟩
theorem jYm {a b : LT} {k : LT → Sx → An} (h : ok (xRm a b st k)) (hi : Inv G ρ st) : 0 ≤ a.ev ρ ∧ 0 < b.ev ρ ∧ ∃ ρ' st', Nx G ρ st ρ' st' ∧ ρ' st.n = ⟨a.ev ρ % b.ev ρ, [], 0⟩ ∧ ok (k (.var st.n) st') := by
 obtain ⟨e, h⟩ := jD h
 simp only [Bool.and_eq_true] at e
 obtain ⟨e1, e2⟩ := e
 obtain ⟨h1, h⟩ := jG h hi
 obtain ⟨h2, h⟩ := jG h hi
 rw [jO] at h2
 obtain ⟨n1, q, h⟩ := zK h hi ⟨a.ev ρ % b.ev ρ, [], 0⟩
 have sv : (LT.var st.n).sc (st.n + 1) = true := gC (Nat.lt_succ_self _)
 have sa : a.sc (st.n + 1) = true := jK (Nat.le_succ _) e1
 have sb : b.sc (st.n + 1) = true := jK (Nat.le_succ _) e2
 have d2 := Int.emod_nonneg (a.ev ρ) (b := b.ev ρ) (by omega)
 have d3 := Int.emod_lt_of_pos (a.ev ρ) (b := b.ev ρ) (by omega)
 have d4 : a.ev ρ % b.ev ρ ≤ a.ev ρ := by
  have d1 := Int.mul_ediv_add_emod (a.ev ρ) (b.ev ρ)
  have := Int.mul_nonneg (a := b.ev ρ) (b := a.ev ρ / b.ev ρ) (by omega) (Int.ediv_nonneg h1 (by omega))
  omega
 have n2 := n1.inv.addFs (l := [.var st.n, (b.sub (.var st.n)).addc (-1), a.sub (.var st.n)]) (by
  intro t ht
  simp only [List.mem_cons, List.not_mem_nil, or_false] at ht
  rcases ht with rfl | rfl | rfl
  ·exact ⟨sv, by rw [qG, q]; exact d2⟩
  ·exact ⟨wV (tY sb sv), by rw [jO, qA, qG, q, n1.lt e2]; show 0 ≤ _ - (a.ev ρ % b.ev ρ) + -1; omega⟩
  ·exact ⟨tY sa sv, by rw [qA, qG, q, n1.lt e1]; show 0 ≤ _ - (a.ev ρ % b.ev ρ); omega⟩)
 exact ⟨h1, by omega, _, _, n1.trans n2, q, h⟩
theorem qDn {o : BinOp} {k : IntKind} {a b : LT} {Q' : K1} {Q : P1} (h : ok (xI o k a b st Q')) (hi : Inv G ρ st) (hk : HK G ρ st Q' Q) : wI o k (a.ev ρ) (b.ev ρ) Q := by
 cases o <;> simp only [xI] at h <;> simp only [wI] <;> try exact (jE h).elim
 case add => have := mE h hi hk; rwa [zU] at this
 case sub => have := mE h hi hk; rwa [qA] at this
 case mul =>
  rcases zO h with ⟨e, h⟩ | ⟨_, h⟩
  ·have := mE h hi hk; rw [uK, ← wJ e ρ] at this; exact this
  ·rcases zO h with ⟨e, h⟩ | ⟨_, h⟩
   ·have := mE h hi hk; rw [uK, ← wJ e ρ, Int.mul_comm] at this; exact this
   ·exact (jE h).elim
 case quo =>
  obtain ⟨h1, h2, qq, ρ', st', n, q, _, _, h⟩ := jUi h hi
  have := mE h n.inv (hk.go n)
  rw [q] at this
  exact ⟨⟨h1, h2⟩, this⟩
 case rem =>
  rcases zO h with ⟨_, h⟩ | ⟨_, h⟩
  ·obtain ⟨h1, h2, qq, ρ', st', n, q, ea, eb, h⟩ := jUi h hi
   have := hk _ _ _ n h
   simp only [SX.den, qA, uK, q, ea, eb] at this
   exact ⟨⟨h1, h2⟩, by rw [Int.emod_def]; exact this⟩
  ·obtain ⟨h1, h2, ρ', st', n, q, h⟩ := jYm h hi
   have := hk _ _ _ n h
   simp only [SX.den, qG, q] at this
   exact ⟨⟨h1, h2⟩, this⟩
 case and => exact sA h hi hk
 case or => exact sA h hi hk
 case eql =>
  obtain ⟨s1, n1, h⟩ := jRt h hi
  rw [lR (show (a.sub b).ev ρ = 0 ↔ a.ev ρ = b.ev ρ by rw [qA]; omega)] at h
  exact jKs (hk _ _ _ n1 h)
 case neq =>
  obtain ⟨s1, n1, h⟩ := jRt h hi
  rw [lR (show (a.sub b).ev ρ = 0 ↔ a.ev ρ = b.ev ρ by rw [qA]; omega)] at h
  exact jLo (hk _ _ _ n1 h)
 case lss => exact eM (by rw [jO, qA]; omega) h hi hk
 case leq => exact eM (by rw [qA]; omega) h hi hk
 case gtr => exact eM (by rw [jO, qA]; omega) h hi hk
 case geq => exact eM (by rw [qA]; omega) h hi hk
theorem jZl {o : BinOp} {k : IntKind} {a b : LT} {Q' : K1} {Q : P1} (h : ok (xSh o k a b st Q')) (hi : Inv G ρ st) (hk : HK G ρ st Q' Q) : wSh o k (a.ev ρ) (b.ev ρ) Q := by
 cases o <;> simp only [xSh] at h <;> simp only [wSh] <;> try exact (jE h).elim
 case shl =>
  obtain ⟨h1, h⟩ := jG h hi
  exact ⟨h1, sA h hi hk⟩
 case shr =>
  obtain ⟨h1, h⟩ := jG h hi
  obtain ⟨h2, h⟩ := sD h hi
  exact ⟨h1, jDl h2, sA h hi hk⟩
theorem jNh {n v m u : LT} {k : Bool → Sx → An} (h : ok (jXq n v m u st k)) (hi : Inv G ρ st) (h0 : (n.ev ρ).toNat = 0 → (v.ev ρ).toNat = 0) (h1 : (m.ev ρ).toNat = 0 → (u.ev ρ).toNat = 0) :
  ∃ st', Nx G ρ st ρ st' ∧ ok (k (decide ((n.ev ρ).toNat = (m.ev ρ).toNat ∧ (v.ev ρ).toNat = (u.ev ρ).toNat)) st') := by
 unfold jXq at h
 rcases zO h with ⟨e, h⟩ | ⟨_, h⟩
 ·rw [Bool.and_eq_true] at e
  rw [LT.beq_ok e.1, LT.beq_ok e.2, decide_eq_true ⟨rfl, rfl⟩]
  exact ⟨st, Nx.refl hi, h⟩
 rcases zO h with ⟨e, h⟩ | ⟨_, h⟩
 ·simp only [Bool.and_eq_true] at e
  obtain ⟨⟨e1, e2, e3, e4⟩, ⟨e5, e6⟩, e7, e8⟩ := e
  rw [wJ e1, wJ e2, wJ e3, wJ e4]
  have q5 := gL e5; have q6 := gL e6; have q7 := gL e7; have q8 := gL e8
  refine ⟨st, Nx.refl hi, ?_⟩
  have : (eqI n.c m.c && eqI v.c u.c) = decide (n.c.toNat = m.c.toNat ∧ v.c.toNat = u.c.toNat) := by
   rw [nH, nH]
   by_cases a : n.c = m.c <;> by_cases b : v.c = u.c <;> simp [a, b] <;> omega
  rw [← this]; exact h
 obtain ⟨hn, h⟩ := jG h hi
 obtain ⟨hm, h⟩ := jG h hi
 obtain ⟨ha, hb⟩ := uJ h
 by_cases q : (n.ev ρ).toNat = (m.ev ρ).toNat ∧ (v.ev ρ).toNat = (u.ev ρ).toNat
 ·rw [decide_eq_true q]
  obtain ⟨s1, n1, ha⟩ := qE ha hi (by rw [qA]; omega)
  obtain ⟨s2, n2, ha⟩ := qE ha n1.inv (by rw [qA]; omega)
  exact ⟨s2, n1.trans n2, ha⟩
 ·rw [decide_eq_false q]
  rcases zO hb with ⟨e, hb⟩ | ⟨_, hb⟩
  ·rw [Bool.and_eq_true, vS, decide_eq_true_eq] at e
   have em : m.ev ρ = 0 := by rw [wJ e.1, e.2]
   refine qE hb hi ?_
   rw [jO]
   by_cases z : (n.ev ρ).toNat = 0
   ·exact absurd ⟨by rw [z, em]; rfl, by rw [h0 z, h1 (by rw [em]; rfl)]⟩ q
   ·omega
  rcases zO hb with ⟨e, hb⟩ | ⟨_, hb⟩
  ·rw [Bool.and_eq_true, vS, decide_eq_true_eq] at e
   have en : n.ev ρ = 0 := by rw [wJ e.1, e.2]
   refine qE hb hi ?_
   rw [jO]
   by_cases z : (m.ev ρ).toNat = 0
   ·exact absurd ⟨by rw [z, en]; rfl, by rw [h1 z, h0 (by rw [en]; rfl)]⟩ q
   ·omega
  ·exact ⟨st, Nx.refl hi, hb⟩
theorem qDl {o : BinOp} {n v m u : LT} {Q' : K1} {Q : P1} (h : ok (xS o n v m u st Q')) (hi : Inv G ρ st) (hn' : n.sc st.n = true) (hm' : m.sc st.n = true) (hk : HK G ρ st Q' Q) : wS o (n.ev ρ).toNat (v.ev ρ).toNat (m.ev ρ).toNat (u.ev ρ).toNat Q := by
 cases o <;> simp only [xS] at h <;> simp only [wS] <;> try exact (jE h).elim
 case add =>
  obtain ⟨hn, h⟩ := jG h hi
  obtain ⟨hm, h⟩ := jG h hi
  obtain ⟨hl, h⟩ := jG h hi
  rw [jO, zC, zU] at hl
  have hb : jYa = 1000000000000 := rfl
  refine ⟨by omega, fun _ _ => ?_⟩
  obtain ⟨n1, e, h⟩ := zK h hi ⟨(((v.ev ρ).toNat + (u.ev ρ).toNat * 256 ^ (n.ev ρ).toNat : Nat) : Int), [], 0⟩
  have := hk _ _ _ n1 h
  simp only [SX.den, qG, e, zU, n1.lt hn', n1.lt hm'] at this
  rw [show (n.ev ρ + m.ev ρ).toNat = (n.ev ρ).toNat + (m.ev ρ).toNat by omega] at this
  simpa only [Int.toNat_natCast] using this
 case eql =>
  intro h0 h1
  obtain ⟨s1, n1, h⟩ := jNh h hi h0 h1
  exact jKs (hk _ _ _ n1 h)
 case neq =>
  intro h0 h1
  obtain ⟨s1, n1, h⟩ := jNh h hi h0 h1
  exact jLo (hk _ _ _ n1 h)
theorem qAb {o : BinOp} {x y : SX} {Q' : K1} {Q : P1} (h : ok (xBi o x y st Q')) (hi : Inv G ρ st) (hx : x.sc st.n = true) (hy : y.sc st.n = true) (hk : HK G ρ st Q' Q) : wBi o (x.den ρ) (y.den ρ) Q := by
 unfold xBi at h
 split at h
 ·simp only [SX.den, wBi]
  rcases zO h with ⟨e, h⟩ | ⟨e, h⟩
  ·rw [e]; exact jZl h hi hk
  ·rw [e]
   obtain ⟨h1, h⟩ := jD h
   simp only [brn, h1, req]
   exact qDn h hi hk
 ·simp only [SX.sc, Bool.and_eq_true] at hx hy
  simp only [SX.den, wBi]
  exact qDl h hi hx.1 hy.1 hk
 ·exact (jE h).elim
theorem jZn {o : UnOp} {x : SX} {Q' : K1} {Q : P1} (h : ok (xUn o x st Q')) (hi : Inv G ρ st) (hk : HK G ρ st Q' Q) : wUn o (x.den ρ) Q := by
 unfold xUn at h
 split at h
 ·rename_i b
  have := hk.now hi h
  simp only [SX.den, wUn] at this ⊢
  cases b <;> exact this
 ·rename_i t
  have := hk.now hi h
  simp only [SX.den, wUn, jO, zC] at this ⊢
  by_cases q : 0 < t.ev ρ
  ·rw [decide_eq_true q]; rw [decide_eq_false (by omega)] at this; exact this
  ·rw [decide_eq_false q]; rw [decide_eq_true (by omega)] at this; exact this
 ·have := mE h hi hk
  simp only [SX.den, wUn]
  rw [zC] at this
  rw [show ∀ a : Int, 0 - a = -a by intro a; omega]; exact this
 ·exact (jE h).elim
theorem rS {v : SX} {k : Bool → Sx → An} (h : ok (jBe v st k)) (hi : Inv G ρ st) : ∃ b st', v.den ρ = .b b ∧ Nx G ρ st ρ st' ∧ ok (k b st') := by
 unfold jBe at h
 split at h
 ·exact ⟨_, st, rfl, Nx.refl hi, h⟩
 ·rename_i t
  obtain ⟨s1, n1, h⟩ := sX h hi
  refine ⟨_, s1, ?_, n1, h⟩
  simp only [SX.den]
  rw [lR (show 0 < t.ev ρ ↔ 0 ≤ (t.addc (-1)).ev ρ by rw [jO]; omega)]
 ·exact (jE h).elim
theorem jQx {c a b : SX} {Q' : K1} {Q : P1} (h : ok (xU c a b st Q')) (hi : Inv G ρ st) (hk : HK G ρ st Q' Q) : jMc (c.den ρ) (a.den ρ) (b.den ρ) Q := by
 obtain ⟨x, s1, e, n1, h⟩ := rS h hi
 have := hk _ _ _ n1 h
 rw [e]
 cases x <;> exact this
theorem qBb {g : Bool} {x y : SX} {Q' : K1} {Q : P1} (h : ok (xBe g x y st Q')) (hi : Inv G ρ st) (hk : HK G ρ st Q' Q) : wBe g (x.den ρ) (y.den ρ) Q := by
 obtain ⟨a, s1, e1, n1, h⟩ := rS h hi
 obtain ⟨b, s2, e2, n2, h⟩ := rS h n1.inv
 have := hk _ _ _ (n1.trans n2) h
 rw [e1, e2]
 cases g <;> exact this
theorem fV {v k b : LT} : ∀ {B : List TE}, nU v k B = some b → (.by_ v k b : TE) ∈ B
 | [], h => by cases h
 | t :: r, h => by
  simp only [nU] at h
  split at h
  ·rename_i c i b'
   cases q : (c.beq v && i.beq k) with
   | true =>
    rw [q] at h
    simp at h
    subst h
    rw [Bool.and_eq_true] at q
    rw [← LT.beq_ok q.1, ← LT.beq_ok q.2]
    exact List.mem_cons_self ..
   | false => rw [q] at h; exact List.mem_cons_of_mem _ (fV h)
  ·exact List.mem_cons_of_mem _ (fV h)
theorem jSx (v k : Int) : jSt v k = byZ v.toNat k := by unfold jSt byZ; rfl
theorem qAa {x i : SX} {Q' : K1} {Q : P1} (h : ok (xIx x i st Q')) (hi : Inv G ρ st) (hx : x.sc st.n = true) (hy : i.sc st.n = true) (hk : HK G ρ st Q' Q) : wIx (x.den ρ) (i.den ρ) Q := by
 unfold xIx at h
 split at h
 ·rename_i n v _ k
  obtain ⟨h1, h⟩ := jG h hi
  obtain ⟨h2, h⟩ := jG h hi
  rw [jO, qA] at h2
  simp only [SX.den, wIx]
  refine ⟨⟨h1, by omega⟩, fun b0 b1 => ?_⟩
  rcases zO h with ⟨e, h⟩ | ⟨_, h⟩
  ·rw [Bool.and_eq_true] at e
   have := hk.now hi h
   simp only [SX.den, zH, jSx] at this
   rw [wJ e.1, wJ e.2]; exact this
  ·split at h
   ·rename_i b e
    have hB := hi.B _ (fV e)
    have := hk.now hi h
    simp only [SX.den, ← show byZ (v.ev ρ).toNat (k.ev ρ) = b.ev ρ from hB] at this
    exact this
   ·obtain ⟨e, h⟩ := jD h
    rw [Bool.and_eq_true] at e
    obtain ⟨n1, q, h⟩ := zK h hi ⟨byZ (v.ev ρ).toNat (k.ev ρ), [], 0⟩
    have sv : (LT.var st.n).sc (st.n + 1) = true := gC (Nat.lt_succ_self _)
    have n2 := n1.inv.addFs (l := [.var st.n, (LT.var st.n).neg.addc 255]) (by
     intro t ht
     simp only [List.mem_cons, List.not_mem_nil, or_false] at ht
     rcases ht with rfl | rfl
     ·exact ⟨sv, by rw [qG, q]; exact b0⟩
     ·exact ⟨wV (oW sv), by rw [jO, zC, qG, q]; show 0 ≤ -byZ _ _ + 255; omega⟩)
    have n3 := n2.inv.addB (t := .by_ v k (.var st.n)) (by
     simp only [TE.sc, Bool.and_eq_true]
     exact ⟨jK (Nat.le_trans n1.n n2.n) e.1, jK (Nat.le_trans n1.n n2.n) e.2, jK n2.n sv⟩) (by
     simp only [TE.holds, n1.lt e.1, n1.lt e.2, qG, q])
    have := hk _ _ _ ((n1.trans n2).trans n3) h
    simp only [SX.den, qG, q] at this
    exact this
 ·exact (jE h).elim
theorem jNc {x : SX} {Q' : LT → An} {Q : Int → Prop} (h : ok (jSf x st Q')) (hx : x.sc st.n = true) (hk : ∀ a, a.sc st.n = true → ok (Q' a) → Q (a.ev ρ)) : iOf (x.den ρ) Q := by
 unfold jSf at h
 split at h
 ·exact hk _ hx h
 ·exact (jE h).elim
theorem yZ {x : Option X} {d : LT} {z : Int} {Q' : LT → An} {Q : Int → Prop} (h : ok (bK st x d Q')) (hi : Inv G ρ st) (hd : d.sc st.n = true) (hz : z = d.ev ρ) (hk : ∀ a, a.sc st.n = true → ok (Q' a) → Q (a.ev ρ)) : aW (denE ρ st.E) x z Q := by
 cases x with
 | some x => exact zB (k := fun v => jSf v st Q') (P := fun v => iOf v Q) h hi fun v hv h => jNc h hv hk
 | none => subst hz; exact hk _ hd h
theorem jZk {x : SX} {lo hi' : Option X} {Q' : K1} {Q : P1} (h : ok (xSs x lo hi' st Q')) (hi : Inv G ρ st) (hx : x.sc st.n = true) (hk : HK G ρ st Q' Q) : wSs (x.den ρ) lo hi' (denE ρ st.E) Q := by
 unfold xSs at h
 split at h
 ·rename_i n v
  simp only [SX.sc, Bool.and_eq_true] at hx
  obtain ⟨hn, h⟩ := jG h hi
  simp only [SX.den, wSs]
  refine yZ h hi (yG _) (by rw [zH]) fun a ha h => ?_
  refine yZ h hi hx.1 (by omega) fun b hb h => ?_
  obtain ⟨h1, h⟩ := jG h hi
  obtain ⟨h2, h⟩ := jG h hi
  obtain ⟨h3, h⟩ := jG h hi
  rw [qA] at h2 h3
  refine ⟨⟨h1, by omega, by omega⟩, fun m w hm _ => ?_⟩
  obtain ⟨n1, e, h⟩ := zK h hi ⟨(w : Int), [], 0⟩
  have := hk _ _ _ n1 h
  simp only [SX.den, qG, e, qA, n1.lt ha, n1.lt hb] at this
  rw [show (b.ev ρ - a.ev ρ).toNat = m by omega] at this
  exact this
 ·exact (jE h).elim
theorem jYt {x : SX} {Q' : K1} {Q : P1} (h : ok (xLn x st Q')) (hi : Inv G ρ st) (hk : HK G ρ st Q' Q) : wLn (x.den ρ) Q := by
 unfold xLn at h
 split at h
 ·obtain ⟨hn, h⟩ := jG h hi
  have := hk.now hi h
  simp only [SX.den, wLn] at this ⊢
  rw [Int.toNat_of_nonneg hn]; exact this
 ·exact (jE h).elim
theorem qBg {x y : SX} {Q' : K1} {Q : P1} (h : ok (xMx x y st Q')) (hi : Inv G ρ st) (hk : HK G ρ st Q' Q) : wMx (x.den ρ) (y.den ρ) Q := by
 unfold xMx at h
 split at h
 ·rename_i k a k' b
  obtain ⟨h1, h⟩ := jD h
  obtain ⟨s1, n1, h⟩ := sX h hi
  have := hk _ _ _ n1 h
  simp only [SX.den, wMx, h1, req]
  by_cases q : 0 ≤ (b.sub a).ev ρ
  ·rw [decide_eq_true q] at this
   rw [qA] at q
   rw [Int.max_eq_right (by omega)]; exact this
  ·rw [decide_eq_false q] at this
   rw [qA] at q
   rw [Int.max_eq_left (by omega)]; exact this
 ·exact (jE h).elim
theorem jZm {x y : SX} {Q' : K1} {Q : P1} (h : ok (xMn x y st Q')) (hi : Inv G ρ st) (hk : HK G ρ st Q' Q) : wMn (x.den ρ) (y.den ρ) Q := by
 unfold xMn at h
 split at h
 ·rename_i k a k' b
  obtain ⟨h1, h⟩ := jD h
  obtain ⟨s1, n1, h⟩ := sX h hi
  have := hk _ _ _ n1 h
  simp only [SX.den, wMn, h1, req]
  by_cases q : 0 ≤ (b.sub a).ev ρ
  ·rw [decide_eq_true q] at this
   rw [qA] at q
   rw [Int.min_eq_left (by omega)]; exact this
  ·rw [decide_eq_false q] at this
   rw [qA] at q
   rw [Int.min_eq_right (by omega)]; exact this
 ·exact (jE h).elim
theorem jYo {k : IntKind} {x : SX} {Q' : K1} {Q : P1} (h : ok (xCi k x st Q')) (hi : Inv G ρ st) (hk : HK G ρ st Q' Q) : wCi k (x.den ρ) Q := by
 unfold xCi at h
 split at h
 ·rename_i k0 n
  simp only [SX.den, wCi]
  obtain ⟨j, a, hj, ha, h⟩ := bM h
  split at h
  ·simp at hj; subst hj
   obtain ⟨h1, _⟩ := sD ha hi
   obtain ⟨h2, h⟩ := jD h
   simp only [h2, req]
   intro m _ hm
   rw [hm (jDl h1)]
   exact hk.now hi h
  ·have := sA h hi hk
   unfold jGl at this
   obtain ⟨h1, h2⟩ := jM this
   simp only [h1, req]
   exact fun m hm _ => h2 m hm
 ·exact (jE h).elim
theorem zX : ∀ (l : List SX), jW ρ l = l.map (SX.den ρ)
 | [] => rfl
 | x :: l => by simp only [jW, List.map_cons, zX l]
theorem qBm {n : Nat} {x : SX} {Q' : K1} {Q : P1} (h : ok (xEx n x st Q')) (hi : Inv G ρ st) (hk : HK G ρ st Q' Q) : wEx n (x.den ρ) Q := by
 unfold xEx at h
 split at h
 ·rename_i l
  simp only [SX.den, wEx]
  rw [qJ] at h
  rw [qJ, zX, List.getElem?_map]
  split at h
  ·rename_i v e
   rw [e]
   exact hk.now hi h
  ·exact (jE h).elim
 ·exact (jE h).elim
end
end
end Go.Proofs.YthfmepmchaofjaaGreat.Ev.Rf
end
section
set_option linter.all false
namespace Go.Proofs.YthfmepmchaofjaaGreat.Ev.Rf
noncomputable section
open Go
section
variable {α β : Type}
theorem fJ (f : α → β) : ∀ (n : Nat) (l : List α), zS n (l.map f) = (zS n l).map (List.map f)
 | 0, l => rfl
 | n + 1, [] => rfl
 | n + 1, a :: l => by
  simp only [List.map_cons, zS, fJ f n l]
  cases zS n l <;> rfl
theorem fQ (f : α → β) (n : Nat) (l : List α) : zM n (l.map f) = (zM n l).map f := by rw [zD, zD, List.map_drop]
theorem jGc (f : α → β) : ∀ (v l : List α), aS (v.map f) (l.map f) = (aS v l).map (List.map f)
 | [], l => rfl
 | v :: vs, [] => rfl
 | v :: vs, a :: l => by
  simp only [List.map_cons, aS, jGc f vs l]
  cases aS vs l <;> rfl
theorem jCi (f : α → β) : ∀ (n : Nat) (v l : List α), zY n (v.map f) (l.map f) = (zY n v l).map (List.map f)
 | 0, v, l => by simp only [zY]; exact jGc f v l
 | n + 1, v, [] => rfl
 | n + 1, v, a :: l => by
  simp only [List.map_cons, zY, jCi f n v l]
  cases zY n v l <;> rfl
theorem iL (f : α → β) : ∀ (l : List α) (i : Nat) (x : α), jJ (l.map f) i (f x) = (jJ l i x).map f
 | [], _, _ => rfl
 | a :: l, 0, x => rfl
 | a :: l, i + 1, x => by simp only [List.map_cons, jJ, iL f l i x]
theorem jBt (f : α → β) : ∀ (n : Nat) (l : List α), zI n (l.map f) = zI n l
 | 0, [] => rfl
 | 0, _ :: _ => rfl
 | n + 1, [] => rfl
 | n + 1, a :: l => by simp only [List.map_cons, zI, jBt f n l]
theorem lN (f : α → β) (l : List α) : jS (l.map f) = jS l := by rw [qD, qD, List.length_map]
end
section
variable {P : PX} {G : Nat → List SV → SV → Prop} {ρ ρ' ρ2 : Rho} {st st' st2 : Sx}
theorem nV {n : Nat} {l r : List SX} (h : zS n l = some r) : zS n (jW ρ l) = some (jW ρ r) := by rw [zX, fJ, h, zX]; rfl
theorem nI {n : Nat} {l : List SX} : zM n (jW ρ l) = jW ρ (zM n l) := by rw [zX, fQ, zX]
theorem jAd {n : Nat} {v l r : List SX} (h : zY n v l = some r) : zY n (jW ρ v) (jW ρ l) = some (jW ρ r) := by rw [zX, zX, jCi, h, zX]; rfl
theorem gN {n : Nat} {l : List SX} : zI n (jW ρ l) = zI n l := by rw [zX, jBt]
theorem lH {n : Nat} {l : List SX} {v : SX} (h : xT l n = some v) : xT (jW ρ l) n = some (v.den ρ) := by
 rw [qJ] at *; rw [zX, List.getElem?_map, h]; rfl
theorem sU (x : SX) : xZ (x.den ρ) = jW ρ (uZ x) := by cases x <;> rfl
theorem jXk (x : SX) : jDx (x.den ρ) = qDi x := by cases x <;> rfl
theorem dF : ∀ (l : List SX), qF (jW ρ l) = kT l
 | [] => rfl
 | x :: l => by simp only [jW, qF, kT, jXk, dF l]
theorem fE {H : List HX} {i : Nat} {hb : HX} (h : xT H i = some hb) : xT (denH ρ H) i = some (hb.den ρ) := by
 rw [qJ] at *; rw [denH, List.getElem?_map, h]; rfl
theorem sL {H : List HX} {i : Nat} (h : xT H i = none) : xT (denH ρ H) i = none := by
 rw [qJ] at *; rw [denH, List.getElem?_map, h]; rfl
theorem yE {H : List HX} {i : Nat} {hb : HX} : jJ (denH ρ H) i (hb.den ρ) = denH ρ (jJ H i hb) := iL _ _ _ _
theorem rW {H K : List HX} : denH ρ (H ++ K) = denH ρ H ++ denH ρ K := List.map_append ..
theorem vA (H : List HX) : jS (denH ρ H) = jS H := lN _ _
theorem Gn.beq_ok {g h : Gn} (k : g.beq h = true) : g = h := by
 simp only [Gn.beq, Bool.and_eq_true] at k
 obtain ⟨a, b⟩ := g
 obtain ⟨c, d⟩ := h
 have e1 := Nat.eq_of_beq_eq_true k.1
 have e2 := Nat.eq_of_beq_eq_true k.2
 dsimp only at e1 e2
 subst e1; subst e2; rfl
theorem Gn.up_den (g : Gn) : g.up.den ρ = Nat.succ (g.den ρ) := by obtain ⟨v, o⟩ := g; cases v <;> simp [Gn.up, Gn.den] <;> omega
theorem Gn.up_sc {n : Nat} {g : Gn} (h : g.sc n = true) : g.up.sc n = true := h
@[simp] theorem kX : g0.den ρ = 0 := rfl
theorem jBo (n : Nat) : g0.sc n = true := Nat.ble_eq_true_of_le (Nat.zero_le _)
theorem jJb (n : Nat) : Nat.beq n n = true := by simp
theorem wT {H : List HX} {i : Nat} {g : Gn} {hb : HX} (h : hbX H i g = some hb) : xT H i = some hb ∧ hb.g = g := by
 unfold hbX at h
 split at h
 ·rename_i hb' e
  cases q : hb'.g.beq g with
  | true => rw [q] at h; simp at h; subst h; exact ⟨e, Gn.beq_ok q⟩
  | false => rw [q] at h; simp at h
 ·cases h
theorem yO {H : List HX} {i : Nat} {g : Gn} {hb : HX} (h : hbX H i g = some hb) {Q : HB → Prop} (hq : Q (hb.den ρ)) : vO (denH ρ H) i (g.den ρ) Q := by
 obtain ⟨h1, h2⟩ := wT h
 unfold vO
 rw [fE h1]
 show req (Nat.beq (hb.g.den ρ) (g.den ρ)) _
 rw [h2, jJb]; exact hq
theorem uT {n : Nat} : ∀ {H : List HX} {i : Nat} {hb : HX}, scH n H = true → xT H i = some hb → hb.g.sc n = true ∧ hb.c.sc n = true
 | [], i, hb, h, e => by cases i <;> cases e
 | a :: l, 0, hb, h, e => by simp only [scH, Bool.and_eq_true] at h; cases e; exact ⟨h.1, h.2.1⟩
 | a :: l, i + 1, hb, h, e => by simp only [scH, Bool.and_eq_true] at h; exact uT h.2.2 e
theorem yS {n : Nat} {hb : HX} (hg : hb.g.sc n = true) (hc : hb.c.sc n = true) : ∀ {H : List HX} {i : Nat}, scH n H = true → scH n (jJ H i hb) = true
 | [], i, h => h
 | a :: l, 0, h => by simp only [scH, jJ, Bool.and_eq_true] at h ⊢; exact ⟨hg, hc, h.2.2⟩
 | a :: l, i + 1, h => by simp only [scH, jJ, Bool.and_eq_true] at h ⊢; exact ⟨h.1, h.2.1, yS hg hc h.2.2⟩
theorem eB {n : Nat} {hb : HX} (hg : hb.g.sc n = true) (hc : hb.c.sc n = true) : ∀ {H : List HX}, scH n H = true → scH n (H ++ [hb]) = true
 | [], h => by simp only [List.nil_append, scH, Bool.and_eq_true]; exact ⟨hg, hc, trivial⟩
 | a :: l, h => by simp only [List.cons_append, scH, Bool.and_eq_true] at h ⊢; exact ⟨h.1, h.2.1, eB hg hc h.2.2⟩
theorem Inv.setH (h : Inv G ρ st) {H : List HX} (hs : scH st.n H = true) : Inv G ρ (st.setH H) := ⟨h.e, hs, h.f, h.n, h.b, h.F, h.N, h.B⟩
theorem Inv.setE (h : Inv G ρ st) {E : EX} (hs : scE st.n E = true) : Inv G ρ (st.setE E) := ⟨hs, h.h, h.f, h.n, h.b, h.F, h.N, h.B⟩
structure Ny (G : Nat → List SV → SV → Prop) (ρ : Rho) (st : Sx) (ρ' : Rho) (st' : Sx) : Prop where
 n : st.n ≤ st'.n
 ag : ∀ k, k < st.n → ρ' k = ρ k
 E : st'.E = st.E
 inv : Inv G ρ' st'
theorem Nx.ny (h : Nx G ρ st ρ' st') : Ny G ρ st ρ' st' := ⟨h.n, h.ag, h.E, h.inv⟩
theorem Nx.ny2 (h : Nx G ρ st ρ' st') (k : Ny G ρ' st' ρ2 st2) : Ny G ρ st ρ2 st2 :=
 ⟨Nat.le_trans h.n k.n, fun j hj => (k.ag j (Nat.lt_of_lt_of_le hj h.n)).trans (h.ag j hj), k.E.trans h.E, k.inv⟩
theorem Ny.trans (h : Ny G ρ st ρ' st') (k : Ny G ρ' st' ρ2 st2) : Ny G ρ st ρ2 st2 :=
 ⟨Nat.le_trans h.n k.n, fun j hj => (k.ag j (Nat.lt_of_lt_of_le hj h.n)).trans (h.ag j hj), k.E.trans h.E, k.inv⟩
theorem Nx.setH (h : Nx G ρ st ρ' st') {H : List HX} (hs : scH st'.n H = true) : Ny G ρ st ρ' (st'.setH H) := ⟨h.n, h.ag, h.E, h.inv.setH hs⟩
def HO (G : Nat → List SV → SV → Prop) (ρ : Rho) (st : Sx) (k : KO) (Q : QO) : Prop := ∀ v st' t ρ', Ny G ρ st ρ' st' → ok (k v st' t) → Q (v.den ρ') (denH ρ' st'.H) t
theorem HO.go {k : KO} {Q : QO} (h : HO G ρ st k Q) (n : Nx G ρ st ρ' st') : HO G ρ' st' k Q := fun v st2 t ρ2 m h2 => h v st2 t ρ2 (n.ny2 m) h2
theorem HO.k1 {k : KO} {Q : QO} (hi : Inv G ρ st) (h : HO G ρ st k Q) : HK G ρ st (fun v st => k v st t0) fun v => Q v (denH ρ st.H) t0 := fun v st' ρ' n h2 => by
 have := h v st' t0 ρ' n.ny h2
 rwa [n.denH hi] at this
theorem ctC (T r : Nat) : (P.C G).ct T r = (P.ct T).map (TyX.at r) := rfl
theorem sT (T r : Nat) : jS ((P.C G).ct T r) = jS (P.ct T) := lN _ _
theorem jDc (R : LT) (d : Option Nat) : ((jPr R d).ev ρ).toNat = (match d with | none => 0 | some d => (R.ev ρ).toNat - d) := by
 cases d with
 | none => simp [jPr]
 | some d =>
  simp only [jPr, jO]
  show (R.ev ρ + (0 - (d : Int))).toNat = _
  omega
theorem jLp {n : Nat} {R : LT} (h : R.sc n = true) (d : Option Nat) : (jPr R d).sc n = true := by
 cases d with
 | none => rfl
 | some d => exact wV h
theorem jWp (r T : Nat) (d : Option Nat) : TyX.at r (.q T d) = .q T (match d with | none => 0 | some d => r - d) := by cases d <;> rfl
theorem jBr {k : LT → LT → Sx → An} (h : ok (fresh st fun a st => fresh st fun c st => k a c st)) (hi : Inv G ρ st) (x y : Rv) :
  ∃ ρ', Nx G ρ st ρ' (st.up (st.n + 2)) ∧ ρ' st.n = x ∧ ρ' (st.n + 1) = y ∧ ok (k (.var st.n) (.var (st.n + 1)) (st.up (st.n + 2))) := by
 obtain ⟨n1, e1, h⟩ := zK h hi x
 obtain ⟨n2, e2, h⟩ := zK h n1.inv y
 exact ⟨_, n1.trans n2, by rw [n2.ag st.n (Nat.lt_succ_self _)]; exact e1, e2, h⟩
theorem jUg {R : LT} {t : TyX} {Q' : K1} {Q : P1} (h : ok (xTy R t st Q')) (hi : Inv G ρ st) (hR : R.sc st.n = true) (hk : ∀ v st' ρ', Nx G ρ st ρ' st' → v.sc st'.n = true → ok (Q' v st') → Q (v.den ρ')) : jWt (t.at (R.ev ρ).toNat) Q := by
 have sv : ∀ n : Nat, (LT.var n).sc (n + 1) = true := fun n => gC (Nat.lt_succ_self _)
 cases t with
 | i k =>
  simp only [xTy] at h
  intro m
  obtain ⟨n1, e, h⟩ := zK h hi ⟨m, [], 0⟩
  have := hk (.i k (.var st.n)) _ _ n1 (sv _) h
  simp only [SX.den, qG, e] at this
  exact this
 | b =>
  simp only [xTy] at h
  intro x
  obtain ⟨n1, e, h⟩ := zK h hi ⟨if x then 1 else 0, [], 0⟩
  have n2 := n1.inv.addFs (l := [.var st.n, (LT.var st.n).neg.addc 1]) (by
   intro t ht
   simp only [List.mem_cons, List.not_mem_nil, or_false] at ht
   rcases ht with rfl | rfl
   ·exact ⟨sv _, by rw [qG, e]; cases x <;> decide⟩
   ·exact ⟨wV (oW (sv _)), by rw [jO, zC, qG, e]; cases x <;> decide⟩)
  have := hk (.bv (.var st.n)) _ _ (n1.trans n2) (jK n2.n (sv _)) h
  simp only [SX.den, qG, e] at this
  cases x <;> exact this
 | s m =>
  simp only [xTy] at h
  intro n w hn h0
  obtain ⟨ρ', n1, e1, e2, h⟩ := jBr h hi ⟨(n : Int), [], 0⟩ ⟨(w : Int), [], 0⟩
  have svn : (LT.var st.n).sc (st.n + 2) = true := gC (by omega)
  have n3 := n1.inv.addFs (l := [.var st.n, (LT.var st.n).neg.addc (SSi + .ofNat m)]) (by
   intro t ht
   simp only [List.mem_cons, List.not_mem_nil, or_false] at ht
   rcases ht with rfl | rfl
   ·exact ⟨svn, by rw [qG, e1]; exact Int.natCast_nonneg n⟩
   ·refine ⟨wV (oW svn), ?_⟩
    rw [jO, zC, qG, e1]
    show 0 ≤ -(n : Int) + ((1000000 : Int) + (m : Int))
    have : SS = 1000000 := rfl
    omega)
  have := hk (.s (.var st.n) (.var (st.n + 1))) _ _ (n1.trans n3) (by simp only [SX.sc, Bool.and_eq_true]; exact ⟨jK n3.n svn, jK n3.n (gC (by show st.n + 1 < st.n + 2; omega))⟩) h
  simp only [SX.den, qG, e1, e2] at this
  exact this
 | q T d =>
  simp only [xTy] at h
  rw [jWp]
  intro n
  intro hNB
  obtain ⟨n1, e, h⟩ := zK h hi ⟨(n : Int), [], 0⟩
  have n2 := n1.inv.addFs (l := [.var st.n, (LT.var st.n).neg.addc jBb]) (by
   intro t ht
   simp only [List.mem_cons, List.not_mem_nil, or_false] at ht
   rcases ht with rfl | rfl
   ·exact ⟨sv _, by rw [qG, e]; exact Int.natCast_nonneg n⟩
   ·refine ⟨wV (oW (sv _)), ?_⟩
    rw [jO, zC, qG, e]
    show 0 ≤ -(n : Int) + 1000000
    have : NB = 1000000 := rfl
    omega)
  have := hk _ _ _ (n1.trans n2) (by simp only [SX.sc, Bool.and_eq_true]; exact ⟨jK (n1.trans n2).n (jLp hR d), jK n2.n (sv _)⟩) h
  simp only [SX.den, qG, e, n1.lt (jLp hR d), jDc] at this
  exact this
theorem jOj {R : LT} : ∀ {l : List TyX} {st : Sx} {ρ : Rho} {Q' : List SX → Sx → An} {Q : List SV → Prop}, ok (jXs R l st Q') → Inv G ρ st → R.sc st.n = true →
  (∀ v st' ρ', Nx G ρ st ρ' st' → scs st'.n v = true → ok (Q' v st') → Q (jW ρ' v)) → jBy (l.map (TyX.at (R.ev ρ).toNat)) Q
 | [], st, ρ, Q', Q, h, hi, hR, hk => hk [] st ρ (Nx.refl hi) rfl h
 | t :: r, st, ρ, Q', Q, h, hi, hR, hk => by
  simp only [List.map_cons, jBy]
  simp only [jXs] at h
  refine jUg (Q := fun v => jBy (r.map (TyX.at (R.ev ρ).toNat)) fun l => Q (v :: l)) h hi hR fun v st1 ρ1 n1 hv h1 => ?_
  have := jOj (Q := fun l => Q (v.den ρ1 :: l)) h1 n1.inv (jK n1.n hR) fun l st2 ρ2 n2 hl h2 => by
   have := hk (v :: l) st2 ρ2 (n1.trans n2) (by simp only [scs, Bool.and_eq_true]; exact ⟨SX.mono n2.n hv, hl⟩) h2
   simp only [jW, n2.sx hv] at this
   exact this
  rw [n1.lt hR] at this
  exact this
end
end
end Go.Proofs.YthfmepmchaofjaaGreat.Ev.Rf
end
section
set_option linter.all false
namespace Go.Proofs.YthfmepmchaofjaaGreat.Ev.Rf
noncomputable section
open Go
section
variable {P : PX} {G : Nat → List SV → SV → Prop} {ρ ρ' ρ2 : Rho} {st st' st2 : Sx}
theorem jFq {R : LT} {l : List TyX} {off : Nat} {n : Option Nat} {Q' : K1} {Q : P1} (h : ok (jMt R l off n st Q')) (hi : Inv G ρ st) (hR : R.sc st.n = true) (hk : HK G ρ st Q' Q) : jHp (l.map (TyX.at (R.ev ρ).toNat)) off n Q := by
 unfold jMt at h
 unfold jHp
 split at h
 ·rw [qJ] at h
  rw [qJ, List.getElem?_map]
  split at h
  ·rename_i t e
   rw [e]
   exact jUg h hi hR fun v st' ρ' n _ h => hk v st' ρ' n h
  ·exact (jE h).elim
 ·split at h
  ·rename_i l' e
   dsimp only
   rw [fQ, fJ, e]
   exact jOj (Q := fun l => Q (.agg l)) h hi hR fun v st' ρ' n _ h => by
    have := hk _ _ _ n h
    simp only [SX.den] at this; exact this
  ·exact (jE h).elim
theorem jRv {n : Option Nat} {a : SX} {Q' : K1} {Q : P1} (h : ok (xLd P n a st Q')) (hi : Inv G ρ st) (ha : a.sc st.n = true) (hk : HK G ρ st Q' Q) : wLd (P.C G) (denH ρ st.H) n (a.den ρ) Q := by
 unfold xLd at h
 split at h
 ·rename_i i g off
  simp only [SX.den, wLd]
  split at h
  ·rename_i hb e
   refine yO e ?_
   split at h
   ·rename_i l hc
    show (match (HX.den ρ hb).c with | .l l => ldS l off n Q | _ => False)
    simp only [HX.den, hc, HCX.den]
    unfold ldS
    split at h
    ·split at h
     ·rename_i v e2
      rw [lH e2]
      exact hk.now hi h
     ·exact (jE h).elim
    ·split at h
     ·rename_i l' e2
      dsimp only
      rw [nI, nV e2]
      have := hk.now hi h
      simp only [SX.den] at this; exact this
     ·exact (jE h).elim
   ·exact (jE h).elim
  ·exact (jE h).elim
 ·rename_i i g k off
  simp only [SX.den, wLd]
  split at h
  ·rename_i hb e
   refine yO e ?_
   split at h
   ·rename_i T R m hc
    show (match (HX.den ρ hb).c with | .r T r _ => jHp ((P.C G).ct T r) off n Q | .rl T r m l => req (Nat.beq (Nat.succ (k.ev ρ).toNat) m) (ldS l off n Q) | _ => False)
    simp only [HX.den, hc, HCX.den]
    have hs := (uT hi.h (wT e).1).2
    rw [hc] at hs
    simp only [HCX.sc, Bool.and_eq_true] at hs
    exact jFq h hi hs.1 hk
   ·rename_i T R m l hc
    show (match (HX.den ρ hb).c with | .r T r _ => jHp ((P.C G).ct T r) off n Q | .rl T r m l => req (Nat.beq (Nat.succ (k.ev ρ).toNat) m) (ldS l off n Q) | _ => False)
    simp only [HX.den, hc, HCX.den]
    obtain ⟨hk0, h⟩ := jG h hi
    obtain ⟨hkm, h⟩ := jD h
    have ekm : m.ev ρ = k.ev ρ + 1 := by rw [← LT.beq_ok hkm, jO]
    have : Nat.beq (Nat.succ (k.ev ρ).toNat) (m.ev ρ).toNat = true := by
     rw [ekm, yI]; simp; omega
    rw [this]
    simp only [req]
    unfold ldS
    split at h
    ·split at h
     ·rename_i v e2
      rw [lH e2]
      exact hk.now hi h
     ·exact (jE h).elim
    ·split at h
     ·rename_i l' e2
      dsimp only
      rw [nI, nV e2]
      have := hk.now hi h
      simp only [SX.den] at this; exact this
     ·exact (jE h).elim
   ·exact (jE h).elim
  ·exact (jE h).elim
 ·rename_i T R off
  simp only [SX.den, wLd]
  exact jFq h hi ha hk
 ·rename_i m c
  simp only [SX.den, wLd]
  split at h
  ·intro _
   have := hk.now hi h
   simp only [SX.den] at this; exact this
  ·exact (jE h).elim
 ·simp only [SX.den, wLd]
  split at h
  ·intro z
   obtain ⟨n1, e, h⟩ := zK h hi ⟨z, [], 0⟩
   have := hk _ _ _ n1 h
   simp only [SX.den, qG, e] at this; exact this
  ·exact (jE h).elim
 ·exact (jE h).elim
theorem eG {j : Nat} {n m : LT} : ∀ {B : List TE}, sK j B = some (n, m) → (.ln j n m : TE) ∈ B
 | [], h => by cases h
 | t :: r, h => by
  simp only [sK] at h
  split at h
  ·rename_i i n' m'
   cases q : Nat.beq i j with
   | true =>
    rw [q] at h
    simp at h
    obtain ⟨rfl, rfl⟩ := h
    rw [← Nat.eq_of_beq_eq_true q]
    exact List.mem_cons_self ..
   | false => rw [q] at h; exact List.mem_cons_of_mem _ (eG h)
  ·exact List.mem_cons_of_mem _ (eG h)
theorem pD (hi : Inv G ρ st) {j : Nat} {n m : LT} (h : sK j st.B = some (n, m)) : ((ρ j).l.length : Int) = n.ev ρ ∧ (∀ p, p ∈ (ρ j).l → (p.1 : Int) ≤ m.ev ρ) ∧ n.sc st.n = true ∧ m.sc st.n = true ∧ Nat.blt j st.n = true := by
 have h1 := hi.B _ (eG h)
 have h2 := hi.b _ (eG h)
 simp only [TE.sc, Bool.and_eq_true] at h2
 exact ⟨h1.1, h1.2, h2.2.1, h2.2.2, h2.1⟩
theorem eU (l : List TyX) (r : Nat) : mO (l.map (TyX.at r)) = jWe l := by
 match l with
 | [] => rfl
 | [.s m] => rfl
 | [.i k] => rfl
 | [.b] => rfl
 | [.q T none] => rfl
 | [.q T (some d)] => rfl
 | .i k :: _ :: _ => rfl
 | .b :: _ :: _ => rfl
 | .s m :: _ :: _ => rfl
 | .q T none :: _ :: _ => rfl
 | .q T (some d) :: _ :: _ => rfl
theorem jUw (l : List TyX) (r : Nat) : qDj (l.map (TyX.at r)) = jMh l := by
 match l with
 | [] => rfl
 | [.s m] => rfl
 | [.i k] => rfl
 | [.b] => rfl
 | [.q T none] => rfl
 | [.q T (some d)] => rfl
 | .i k :: _ :: _ => rfl
 | .b :: _ :: _ => rfl
 | .s m :: _ :: _ => rfl
 | .q T none :: _ :: _ => rfl
 | .q T (some d) :: _ :: _ => rfl
theorem jPs (t : TyX) (r : Nat) : jBz (t.at r) = jQm t := by cases t with | q T d => cases d <;> rfl | _ => rfl
theorem oA (r : Nat) : ∀ l : List TyX, nQ (l.map (TyX.at r)) = eZ l
 | [] => rfl
 | t :: l => by simp only [List.map_cons, nQ, eZ, jPs, oA r l]
theorem jMp {R : LT} {t : TyX} {v : SX} {k : An} (h : ok (jWx P st R t v k)) (hi : Inv G ρ st) : jIl (P.C G) (t.at (R.ev ρ).toNat) (v.den ρ) ∧ ok k := by
 unfold jWx at h
 split at h
 ·obtain ⟨h1, h⟩ := jD h
  exact ⟨by simp only [SX.den, TyX.at, jIl, h1, req], h⟩
 ·exact ⟨trivial, h⟩
 ·exact ⟨trivial, h⟩
 ·rename_i m n c
  obtain ⟨h1, h⟩ := jG h hi
  rw [jO, zC] at h1
  refine ⟨?_, h⟩
  show (n.ev ρ).toNat ≤ SS + m
  have e1 : SSi = 1000000 := rfl
  have e2 : SS = 1000000 := rfl
  have e3 : (Int.ofNat m : Int) = (m : Int) := rfl
  omega
 ·refine ⟨?_, h⟩
  rw [jWp]; trivial
 ·rename_i T d T' R' n
  obtain ⟨h1, h⟩ := jD h
  obtain ⟨h2, h⟩ := jG h hi
  rw [qA] at h2
  refine ⟨?_, h⟩
  rw [jWp, ← jDc (ρ := ρ)]
  simp only [SX.den, jIl, h1, req]
  omega
 ·rename_i T d j
  obtain ⟨h1, h⟩ := jD h
  rw [Bool.and_eq_true, Bool.not_eq_true'] at h1
  have h2 : (P.C G).co T = 0 := by
   show (bif P.cp T then 1 else 0) = 0
   rw [h1.2]; rfl
  split at h
  ·rename_i n m e
   obtain ⟨hn3, h⟩ := jG h hi
   obtain ⟨h3, h⟩ := jG h hi
   rw [jO, zC] at h3 hn3
   refine ⟨?_, h⟩
   rw [jWp, ← jDc (ρ := ρ)]
   simp only [SX.den, jIl, ctC, eU, h1.1, req, jUw]
   have hlen := (pD hi e).1
   have hb12 : jBb = 1000000 := rfl
   have hNB : NB = 1000000 := rfl
   refine ⟨h2, by omega, fun p hp => ?_⟩
   have := (pD hi e).2.1 p hp
   have e1 : SSi = 1000000 := rfl
   have e2 : SS = 1000000 := rfl
   have e3 : (Int.ofNat (jMh (P.ct T)) : Int) = (jMh (P.ct T) : Int) := rfl
   omega
  ·exact (jE h).elim
 ·exact (jE h).elim
theorem lM {R : LT} : ∀ {l : List TyX} {v : List SX} {k : An}, ok (jIb P st R l v k) → Inv G ρ st → jGo (P.C G) (l.map (TyX.at (R.ev ρ).toNat)) (jW ρ v) ∧ ok k
 | [], [], k, h, hi => ⟨trivial, h⟩
 | [], _ :: _, k, h, hi => (jE h).elim
 | _ :: _, [], k, h, hi => (jE h).elim
 | t :: r, v :: l, k, h, hi => by
  obtain ⟨h1, h⟩ := jMp (k := jIb P st R r l k) h hi
  obtain ⟨h2, h⟩ := lM h hi
  exact ⟨⟨h1, h2⟩, h⟩
theorem qBk {n : Nat} {a x : SX} {Q' : KH} {Q : QH} (h : ok (xSt P n a x st Q')) (hi : Inv G ρ st) (ha : a.sc st.n = true) (hk : ∀ st' t ρ', Ny G ρ st ρ' st' → ok (Q' st' t) → Q (denH ρ' st'.H) t) : wSt (P.C G) (denH ρ st.H) n (a.den ρ) (x.den ρ) Q := by
 unfold xSt at h
 replace h := jD h
 obtain ⟨h0, h⟩ := h
 unfold wSt
 rw [sU, gN, dF, h0]
 simp only [req]
 split at h
 ·rename_i i g off
  split at h
  ·rename_i hb e
   simp only [SX.den]
   refine yO e ?_
   split at h
   ·rename_i l hc
    simp only [HX.den, hc, HCX.den]
    split at h
    ·rename_i l' e2
     obtain ⟨h1, h⟩ := jD h
     rw [jAd e2]
     have hg := uT hi.h (wT e).1
     have hs : scH st.n (jJ st.H i ⟨hb.e, hb.g, .l l'⟩) = true := yS (hb := ⟨hb.e, hb.g, .l l'⟩) hg.1 h1 hi.h
     have := hk _ _ ρ ((Nx.refl hi).setH hs) h
     rw [show (st.setH (jJ st.H i ⟨hb.e, hb.g, .l l'⟩)).H = jJ st.H i ⟨hb.e, hb.g, .l l'⟩ from rfl, ← yE] at this
     exact this
    ·exact (jE h).elim
   ·exact (jE h).elim
  ·exact (jE h).elim
 ·rename_i i g k off
  split at h
  ·rename_i hb e
   simp only [SX.den]
   refine yO e ?_
   split at h
   ·rename_i T R m hc
    simp only [HX.den, hc, HCX.den]
    split at h
    ·rename_i l e2
     obtain ⟨h1, h⟩ := jD h
     obtain ⟨h2, h⟩ := lM h hi
     rw [sT, ctC, fQ, fJ, e2, h1]
     rw [zH] at h2
     exact ⟨h2, hk _ _ ρ (Nx.refl hi).ny h⟩
    ·exact (jE h).elim
   ·exact (jE h).elim
  ·exact (jE h).elim
 ·rename_i T R off
  simp only [SX.den]
  split at h
  ·rename_i l e2
   obtain ⟨h1, h⟩ := jD h
   obtain ⟨h2, h⟩ := lM h hi
   simp only [Bool.and_eq_true] at h1
   rw [sT, ctC, fQ, fJ, e2, eU]
   show req (nQ (l.map (TyX.at (R.ev ρ).toNat)) && !jWe (P.ct T) && Nat.ble off (jS (P.ct T))) _
   rw [oA, h1.1, h1.2.1, h1.2.2]
   exact ⟨h2, hk _ _ ρ (Nx.refl hi).ny h⟩
  ·exact (jE h).elim
 ·exact (jE h).elim
theorem qAg {x : SX} {Q' : K1} {Q : P1} (h : ok (xNc x st Q')) (hi : Inv G ρ st) (hk : HK G ρ st Q' Q) : wNc (denH ρ st.H) (x.den ρ) Q := by
 unfold xNc at h
 split at h
 ·simp only [SX.den, wNc]
  split at h
  ·rename_i hb e
   exact yO e (hk.now hi h)
  ·exact (jE h).elim
 ·simp only [SX.den, wNc]
  split at h
  ·rename_i hb e
   refine yO e ?_
   split at h
   ·rename_i hc
    simp only [HX.den, hc, HCX.den]
    exact hk.now hi h
   ·rename_i hc
    simp only [HX.den, hc, HCX.den]
    exact hk.now hi h
   ·exact (jE h).elim
  ·exact (jE h).elim
 ·exact hk.now hi h
 ·exact hk.now hi h
 ·exact (jE h).elim
theorem qBr {off : Nat} {x : SX} {Q' : K1} {Q : P1} (h : ok (xFa off x st Q')) (hi : Inv G ρ st) (hk : HK G ρ st Q' Q) : wFa (denH ρ st.H) off (x.den ρ) Q := by
 unfold xFa at h
 split at h
 ·simp only [SX.den, wFa]
  split at h
  ·rename_i hb e
   rw [zQ] at h
   exact yO e (hk.now hi h)
  ·exact (jE h).elim
 ·simp only [SX.den, wFa]
  split at h
  ·rename_i hb e
   refine yO e ?_
   split at h
   ·rename_i hc
    rw [zQ] at h
    simp only [HX.den, hc, HCX.den]
    exact hk.now hi h
   ·rename_i hc
    rw [zQ] at h
    simp only [HX.den, hc, HCX.den]
    exact hk.now hi h
   ·exact (jE h).elim
  ·exact (jE h).elim
 ·rw [zQ] at h
  exact hk.now hi h
 ·obtain ⟨h1, h⟩ := jD h
  simp only [SX.den, wFa, h1, req]
  exact hk.now hi h
 ·exact (jE h).elim
theorem sM {j : Nat} {k n c : LT} : ∀ {B : List TE}, oM j k B = some (n, c) → (.el j k n c : TE) ∈ B
 | [], h => by cases h
 | t :: r, h => by
  simp only [oM] at h
  split at h
  ·rename_i i u n' c'
   cases q : (Nat.beq i j && u.beq k) with
   | true =>
    rw [q] at h
    simp at h
    obtain ⟨rfl, rfl⟩ := h
    rw [Bool.and_eq_true] at q
    rw [← Nat.eq_of_beq_eq_true q.1, ← LT.beq_ok q.2]
    exact List.mem_cons_self ..
   | false => rw [q] at h; exact List.mem_cons_of_mem _ (sM h)
  ·exact List.mem_cons_of_mem _ (sM h)
theorem jYp {sz : Nat} {x y : SX} {Q' : K1} {Q : P1} (h : ok (xIa P sz x y st Q')) (hi : Inv G ρ st) (hx : x.sc st.n = true) (hy : y.sc st.n = true) (hk : HK G ρ st Q' Q) : wIa (P.C G) (denH ρ st.H) sz (x.den ρ) (y.den ρ) Q := by
 unfold wIa
 have h0 := h
 clear h
 refine jNc h0 hy fun k hkk h => ?_
 clear h0
 split at h
 ·rename_i i g n sz'
  obtain ⟨h1, h⟩ := jD h
  obtain ⟨h2, h⟩ := jG h hi
  obtain ⟨h3, h⟩ := jG h hi
  rw [jO, qA] at h3
  simp only [SX.den, h1, req]
  refine ⟨⟨h2, by omega⟩, ?_⟩
  split at h
  ·rename_i hb e
   refine yO e ?_
   split at h
   ·rename_i l hc
    simp only [HX.den, hc, HCX.den]
    split at h
    ·rename_i e3
     rw [zQ] at h
     have ek : k.ev ρ = k.c := by simp only [LT.ev, e3, evL]; omega
     have := hk.now hi h
     simp only [SX.den] at this
     rw [ek]
     rw [ek] at h2
     obtain ⟨m, hm⟩ := Int.eq_ofNat_of_zero_le h2
     rw [hm] at this ⊢
     exact this
    ·obtain ⟨c, h⟩ := nB h
     obtain ⟨q1, h⟩ := jG h hi
     obtain ⟨q2, h⟩ := jG h hi
     rw [jO] at q1
     rw [jO, zC] at q2
     rw [zQ] at h
     have ek : k.ev ρ = (c : Int) := by
      have : Int.ofNat c = (c : Int) := rfl
      omega
     have := hk.now hi h
     simp only [SX.den] at this
     rw [ek]
     exact this
   ·rename_i T R m hc
    simp only [HX.den, hc, HCX.den]
    obtain ⟨h4, h⟩ := jD h
    rw [sT, h4]
    have := hk.now hi h
    simp only [SX.den] at this; exact this
   ·rename_i T R m hc
    simp only [HX.den, hc, HCX.den]
    obtain ⟨h4, h⟩ := jD h
    rw [sT, h4]
    have := hk.now hi h
    simp only [SX.den] at this; exact this
   ·exact (jE h).elim
  ·exact (jE h).elim
 ·rename_i T R n
  obtain ⟨h1, h⟩ := jD h
  obtain ⟨h2, h⟩ := jG h hi
  obtain ⟨h3, h⟩ := jG h hi
  rw [jO, qA] at h3
  simp only [SX.den]
  rw [sT, h1]
  refine ⟨⟨h2, by omega⟩, fun hcp => ?_⟩
  rcases zO h with ⟨e, h⟩ | ⟨e, h⟩
  ·have hcp' : 1 ≤ (R.ev ρ).toNat := by
    have : (if P.cp T = true then 1 ≤ (R.ev ρ).toNat else True) := hcp
    rwa [if_pos e] at this
   obtain ⟨s1, n1, h⟩ := qE h hi (by rw [jO]; omega)
   have := hk _ _ _ n1 h
   simp only [SX.den] at this; exact this
  ·have := hk.now hi h
   simp only [SX.den] at this; exact this
 ·rename_i j
  obtain ⟨h1, h⟩ := jD h
  split at h
  ·rename_i n m e
   obtain ⟨l1, l2, l3, l4, l5⟩ := pD hi e
   obtain ⟨h2, h⟩ := jG h hi
   obtain ⟨h3, h⟩ := jG h hi
   rw [jO, qA] at h3
   simp only [SX.den, h1, req]
   refine ⟨⟨h2, by omega⟩, fun p hp => ?_⟩
   have hpm : p ∈ (ρ j).l := List.mem_of_getElem? hp
   split at h
   ·rename_i a c e2
    have hB := hi.B _ (sM e2)
    simp only [TE.holds] at hB
    rw [hB] at hp
    cases hp
    have := hk.now hi h
    simp only [SX.den] at this; exact this
   ·obtain ⟨h4, h⟩ := jD h
    simp only [Bool.and_eq_true] at h4
    obtain ⟨ρ', n1, e1, e2, h⟩ := jBr h hi ⟨(p.1 : Int), [], 0⟩ ⟨(p.2 : Int), [], 0⟩
    have sa : (LT.var st.n).sc (st.n + 2) = true := gC (by omega)
    have sc' : (LT.var (st.n + 1)).sc (st.n + 2) = true := gC (by omega)
    have n2 := n1.inv.addFs (l := [.var st.n, m.sub (.var st.n), .var (st.n + 1)]) (by
     intro t ht
     simp only [List.mem_cons, List.not_mem_nil, or_false] at ht
     rcases ht with rfl | rfl | rfl
     ·exact ⟨sa, by rw [qG, e1]; exact Int.natCast_nonneg _⟩
     ·exact ⟨tY (jK n1.n h4.2.2) sa, by rw [qA, qG, e1, n1.lt h4.2.2]; have := l2 p hpm; show 0 ≤ m.ev ρ - (p.1 : Int); omega⟩
     ·exact ⟨sc', by rw [qG, e2]; exact Int.natCast_nonneg _⟩)
    have hj : ρ' j = ρ j := n1.ag j (Nat.le_of_ble_eq_true h4.1)
    have n3 := n2.inv.addB (t := .el j k (.var st.n) (.var (st.n + 1))) (by
     have hm := Nat.le_trans n1.n n2.n
     simp only [TE.sc, Bool.and_eq_true]
     exact ⟨Nat.ble_eq_true_of_le (Nat.le_trans (Nat.le_of_ble_eq_true h4.1) hm), jK hm h4.2.1, jK n2.n sa, jK n2.n sc'⟩) (by
     simp only [TE.holds, hj, n1.lt h4.2.1, qG, e1, e2]
     exact hp)
    have := hk _ _ _ ((n1.trans n2).trans n3) h
    simp only [SX.den, qG, e1, e2] at this
    exact this
  ·exact (jE h).elim
 ·rename_i n
  obtain ⟨h1, h⟩ := jD h
  obtain ⟨h2, h⟩ := jG h hi
  obtain ⟨h3, h⟩ := jG h hi
  rw [jO, qA] at h3
  simp only [SX.den, h1, req]
  exact ⟨⟨h2, by omega⟩, hk.now hi h⟩
 ·exact (jE h).elim
theorem wW (H : List HX) (i : Nat) : denH ρ (uE H i) = dead (denH ρ H) i := by
 unfold uE dead
 cases e : xT H i with
 | some hb =>
  rw [fE e]
  show denH ρ (jJ H i ⟨hb.e, hb.g.up, .dead⟩) = jJ (denH ρ H) i ⟨hb.e, Nat.succ (hb.g.den ρ), .dead⟩
  rw [← yE]
  show jJ _ _ (HX.den ρ ⟨hb.e, hb.g.up, .dead⟩) = _
  simp only [HX.den, Gn.up_den, HCX.den]
 | none => rw [sL e]
theorem kH {n : Nat} {H : List HX} {i : Nat} (h : scH n H = true) : scH n (uE H i) = true := by
 unfold uE
 split
 ·rename_i hb e
  exact yS (hb := ⟨hb.e, hb.g.up, .dead⟩) (uT h e).1 rfl h
 ·exact h
theorem jRz (hi : Inv G ρ st) {j : Nat} {n m a b : LT} (l1 : ((ρ j).l.length : Int) = n.ev ρ) (l2 : ∀ p, p ∈ (ρ j).l → (p.1 : Int) ≤ m.ev ρ) (h1 : 0 ≤ a.ev ρ) (h2 : 0 ≤ b.ev ρ - a.ev ρ) (h3 : 0 ≤ n.ev ρ - b.ev ρ) (sm : m.sc st.n = true) (sa : a.sc st.n = true) (sb : b.sc st.n = true) {k : LT → Sx → An} (h : ok (fresh st k)) :
  ∃ ρ', Nx G ρ st ρ' ((st.up (st.n + 1)).addB (.ln st.n (b.sub a) m)) ∧ (ρ' st.n).l = ((ρ j).l.drop (a.ev ρ).toNat).take (b.ev ρ - a.ev ρ).toNat ∧ ok (k (.var st.n) (st.up (st.n + 1))) := by
 obtain ⟨n1, e, h⟩ := zK h hi ⟨0, ((ρ j).l.drop (a.ev ρ).toNat).take (b.ev ρ - a.ev ρ).toNat, 0⟩
 have n2 := n1.inv.addB (t := .ln st.n (b.sub a) m) (by
  simp only [TE.sc, Bool.and_eq_true]
  exact ⟨Nat.ble_eq_true_of_le (Nat.le_refl _), tY (jK n1.n sb) (jK n1.n sa), jK n1.n sm⟩) (by
  simp only [TE.holds, e, qA, n1.lt sa, n1.lt sb, n1.lt sm]
  refine ⟨?_, fun p hp => l2 p (List.mem_of_mem_drop (List.mem_of_mem_take hp))⟩
  rw [List.length_take, List.length_drop]; omega)
 exact ⟨_, n1.trans n2, by rw [e], h⟩
theorem jZa {sz : Nat} {x : SX} {lo hi' : Option X} {Q' : KO} {Q : QO} (h : ok (xSl P sz x lo hi' st Q')) (hi : Inv G ρ st) (hx : x.sc st.n = true) (hk : HO G ρ st Q' Q) : wSl (P.C G) (denH ρ st.H) sz (x.den ρ) lo hi' (denE ρ st.E) Q := by
 unfold xSl at h
 split at h
 ·simp only [SX.den, wSl]
  refine yZ h hi (yG _) (by rw [zH]) fun a ha h => ?_
  refine yZ h hi (yG _) (by rw [zH]) fun b hb h => ?_
  obtain ⟨h1, h⟩ := jG h hi
  obtain ⟨h2, h⟩ := jG h hi
  obtain ⟨h3, h⟩ := jG h hi
  rw [qA] at h2; rw [zC] at h3
  exact ⟨by omega, hk _ _ _ _ (Nx.refl hi).ny h⟩
 ·rename_i T R n
  simp only [SX.sc, Bool.and_eq_true] at hx
  obtain ⟨h0, h⟩ := jD h
  obtain ⟨hn, h⟩ := jG h hi
  simp only [SX.den, wSl]
  rw [sT, h0]
  refine yZ h hi (yG _) (by rw [zH]) fun a ha h => ?_
  refine yZ h hi hx.2 (by omega) fun b hb h => ?_
  obtain ⟨h1, h⟩ := jG h hi
  obtain ⟨h2, h⟩ := jG h hi
  obtain ⟨h3, h⟩ := jG h hi
  rw [qA] at h2 h3
  refine ⟨by omega, fun m hm => ?_⟩
  have := hk _ _ _ _ (Nx.refl hi).ny h
  simp only [SX.den, qA] at this
  rwa [show (b.ev ρ - a.ev ρ).toNat = m by omega] at this
 ·rename_i j
  obtain ⟨h0, h⟩ := jD h
  split at h
  ·rename_i n m e
   obtain ⟨l1, l2, l3, l4, l5⟩ := pD hi e
   obtain ⟨hn, h⟩ := jG h hi
   simp only [SX.den, wSl, h0, req]
   refine yZ h hi (yG _) (by rw [zH]) fun a ha h => ?_
   refine yZ h hi l3 l1 fun b hb h => ?_
   obtain ⟨h1, h⟩ := jG h hi
   obtain ⟨h2, h⟩ := jG h hi
   obtain ⟨h3, h⟩ := jG h hi
   rw [qA] at h2 h3
   refine ⟨by omega, ?_⟩
   obtain ⟨h4, h⟩ := jD h
   obtain ⟨ρ', n1, e1, h⟩ := jRz hi l1 l2 h1 h2 h3 l4 ha hb h
   have := hk _ _ _ _ n1.ny h
   rw [show (SX.qs (Nat.pred (st.up (st.n + 1)).n)).den ρ' = .qs (ρ' st.n).l from rfl, e1] at this
   have hH : denH ρ' ((st.up (st.n + 1)).addB (.ln st.n (b.sub a) m)).H = denH ρ st.H := n1.denH hi
   rw [hH] at this
   exact this
  ·exact (jE h).elim
 ·rename_i i g n sz'
  simp only [SX.den, wSl]
  split at h
  ·rename_i hb e
   refine yO e ?_
   split at h
   ·rename_i j hc
    simp only [HX.den, hc, HCX.den]
    obtain ⟨h0, h⟩ := jD h
    split at h
    ·rename_i n m e2
     obtain ⟨l1, l2, l3, l4, l5⟩ := pD hi e2
     obtain ⟨hn, h⟩ := jG h hi
     simp only [h0, req]
     refine yZ h hi (yG _) (by rw [zH]) fun a ha h => ?_
     refine yZ h hi l3 l1 fun b hb2 h => ?_
     obtain ⟨h1, h⟩ := jG h hi
     obtain ⟨h2, h⟩ := jG h hi
     obtain ⟨h3, h⟩ := jG h hi
     rw [qA] at h2 h3
     refine ⟨by omega, ?_⟩
     obtain ⟨h4, h⟩ := jD h
     obtain ⟨ρ', n1, e1, h⟩ := jRz hi l1 l2 h1 h2 h3 l4 ha hb2 h
     have hs : scH ((st.up (st.n + 1)).addB (.ln st.n (b.sub a) m)).n (uE st.H i) = true := uG n1.n (kH hi.h)
     have := hk _ _ _ _ (n1.setH hs) h
     rw [show (SX.qs (Nat.pred (st.up (st.n + 1)).n)).den ρ' = .qs (ρ' st.n).l from rfl, e1] at this
     have hH : denH ρ' (uE st.H i) = dead (denH ρ st.H) i := by rw [← wW]; exact zP n1.ag (kH hi.h)
     change Q _ (denH ρ' (uE st.H i)) _ at this
     rw [hH] at this
     exact this
    ·exact (jE h).elim
   ·exact (jE h).elim
  ·exact (jE h).elim
 ·exact (jE h).elim
theorem qAi {x : SX} {Q' : K1} {Q : P1} (h : ok (xLm x st Q')) (hi : Inv G ρ st) (hk : HK G ρ st Q' Q) : wLm (denH ρ st.H) (x.den ρ) Q := by
 unfold xLm at h
 split at h
 ·have := hk.now hi h
  simp only [SX.den, zH] at this; exact this
 ·rename_i i g n z
  simp only [SX.den, wLm]
  split at h
  ·rename_i hb e
   refine yO e ?_
   split at h
   ·exact (jE h).elim
   ·rename_i hne
    obtain ⟨hn, h⟩ := jG h hi
    have := hk.now hi h
    simp only [SX.den] at this
    have e1 : (((n.ev ρ).toNat : Nat) : Int) = n.ev ρ := Int.toNat_of_nonneg hn
    cases hc : hb.c with
    | dead => exact absurd hc hne
    | l l => simp only [HX.den, hc, HCX.den]; rw [e1]; exact this
    | r T R k => simp only [HX.den, hc, HCX.den]; rw [e1]; exact this
    | xs j => simp only [HX.den, hc, HCX.den]; rw [e1]; exact this
    | rl T R k m => simp only [HX.den, hc, HCX.den]; rw [e1]; exact this
  ·exact (jE h).elim
 ·rename_i T R n
  obtain ⟨hn, h⟩ := jG h hi
  have := hk.now hi h
  simp only [SX.den, wLm] at this ⊢
  rw [Int.toNat_of_nonneg hn]; exact this
 ·rename_i j
  split at h
  ·rename_i n m e
   obtain ⟨hn, h⟩ := jG h hi
   have := hk.now hi h
   simp only [SX.den, wLm] at this ⊢
   rw [(pD hi e).1]; exact this
  ·exact (jE h).elim
 ·obtain ⟨hn, h⟩ := jG h hi
  have := hk.now hi h
  simp only [SX.den, wLm] at this ⊢
  rw [Int.toNat_of_nonneg hn]; exact this
 ·exact (jE h).elim
end
end
end Go.Proofs.YthfmepmchaofjaaGreat.Ev.Rf
end
