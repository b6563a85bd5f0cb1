/-
Trees, their rows of texts, and what the contents of a call's result are. No program is named here.
-/
import Derived.Test.YthfmepmchaofjaaGreatWd
import Derived.Test.YthfmepmchaofjaaGreatEvN
import Derived.Test.YthfmepmchaofjaaGreatRl
import Derived.Test.YthfmepmchaofjaaGreatLg
import Derived.Test.YthfmepmchaofjaaGreatRv
section
set_option linter.all false
namespace Go.Proofs.YthfmepmchaofjaaGreat.Ev.Lf
noncomputable section
open Go Ev
abbrev Tx := Nat × Nat
inductive Tr where
 | mk (k : Int) (x : Tx) (ks : List Tr) (ld ft : List Tx) (tr : Option Tx)
structure Dc where
 hd : List Tx
 rt : Tr
 ft : List Tx
def jC (c : Nat) (p : Tx) : Tx := (1 + p.1, c + p.2 * 256 ^ 1)
def isC : List Tx → List (List Nd) → Prop
 | [], l => l = []
 | p :: ps, l => ∃ k b r, l = [.s p.1 p.2, .i k b] :: r ∧ isC ps r
mutual
def isT : Tr → List Nd → Prop
 | .mk k x ks ld ft tr, row => ∃ n1 n2 n3 m4 v4 m5 v5 kr lr fr b rn rv, row = [.i .i64 k, .i .i64 n1, .i .i64 n2, .i .i64 n3, .s m4 v4, .s m5 v5, .s x.1 x.2, .q 12 kr, .q 2 lr, .q 2 fr, .b b, .s rn rv] ∧
  sW ks kr ∧ isC ld lr ∧ isC ft fr ∧ tr = (if b = true then some (rn, rv) else none)
def sW : List Tr → List (List Nd) → Prop
 | [], l => l = []
 | t :: ts, l => ∃ r rs, l = r :: rs ∧ isT t r ∧ sW ts rs
end
def isD (d : Dc) (row : List Nd) : Prop := ∃ hr w dr b rt fr, row = .q 2 hr :: .q w dr :: .b b :: (rt ++ [.q 2 fr]) ∧ isC d.hd hr ∧ isT d.rt rt ∧ isC d.ft fr
def jUb : List Dc → List (List Nd) → Prop
 | [], l => l = []
 | d :: ds, l => ∃ r rs, l = r :: rs ∧ isD d r ∧ jUb ds rs
def yL (k : Int) (x : Tx) : List Tx := if k = 2 then [jC 42 x] else if k = 1 ∧ ¬ (x.1 = 0 ∧ x.2 = 0) then [jC 61 x] else []
def trT : Option Tx → List Tx
 | none => []
 | some p => [jC 35 p]
mutual
def qW : Tr → List Tx
 | .mk k x ks ld ft tr => ld.map (jC 35) ++ (yL k x ++ (jH ks ++ (ft.map (jC 35) ++ trT tr)))
def jH : List Tr → List Tx
 | [] => []
 | t :: ts => qW t ++ jH ts
end
mutual
def qH : Tr → List Tx
 | .mk k x ks ld ft tr => ld.map (jC 35) ++ (jB ks ++ (ft.map (jC 35) ++ trT tr))
def jB : List Tr → List Tx
 | [] => []
 | t :: ts => qH t ++ jB ts
end
def Tr.ld : Tr → List Tx
 | .mk _ _ _ ld _ _ => ld
mutual
def ntd : Tr → Bool
 | .mk k x ks ld ft tr => !ft.isEmpty || (tr.isSome || bA ks)
def bA : List Tr → Bool
 | [] => false
 | t :: ts => (!t.ld.isEmpty || ntd t) || bA ts
end
mutual
def inn : Tr → Bool
 | .mk k x ks ld ft tr => wP k 0 ks
def wP (k : Int) (i : Nat) : List Tr → Bool
 | [] => false
 | t :: ts => ((decide (k = 4) && decide (i % 2 = 0) && ntd t) || inn t) || wP k (i + 1) ts
end
def jHd (d : Dc) : List Tx := d.hd.map (jC 35) ++ (qW d.rt ++ d.ft.map (jC 35))
def xE : List Dc → List Tx
 | [] => []
 | d :: ds => jHd d ++ xE ds
def jMz (d : Dc) : List Tx := d.hd.map (jC 35) ++ (qH d.rt ++ d.ft.map (jC 35))
def yC : List Dc → List Tx
 | [] => []
 | d :: ds => jMz d ++ yC ds
def lW (ds : List Dc) (tl : List Tx) : List Tx := xE ds ++ tl.map (jC 35)
def jBk (ds : List Dc) (tl : List Tx) : List Tx := yC ds ++ tl.map (jC 35)
def dL : List Dc → Bool
 | [] => false
 | d :: ds => inn d.rt || dL ds
mutual
def wtT : Tr → Nat
 | .mk k x ks ld ft tr => 1 + (fA ks + (ld.length + ft.length))
def fA : List Tr → Nat
 | [] => 0
 | t :: ts => wtT t + fA ts
end
def uC : List Dc → Nat
 | [] => 0
 | d :: ds => (d.hd.length + (wtT d.rt + d.ft.length)) + uC ds
def okX (p : Tx) : Prop := p.1 ≤ 200000000000
def jGp (l : List Tx) : Prop := ∀ p, p ∈ l → okX p
mutual
def okT : Tr → Prop
 | .mk k x ks ld ft tr => okX x ∧ jGj ks ∧ jGp ld ∧ jGp ft ∧ (∀ p, tr = some p → okX p) ∧ ks.length ≤ NB ∧ ld.length ≤ NB ∧ ft.length ≤ NB
def jGj : List Tr → Prop
 | [] => True
 | t :: ts => okT t ∧ jGj ts
end
def okD (d : Dc) : Prop := jGp d.hd ∧ okT d.rt ∧ jGp d.ft ∧ d.hd.length ≤ NB ∧ d.ft.length ≤ NB
def jWu : List Dc → Prop
 | [] => True
 | d :: ds => okD d ∧ jWu ds
mutual
theorem pT : ∀ t : Tr, (qW t).length ≤ 2 * wtT t
 | .mk k x ks ld ft tr => by
  have := qO ks
  have h1 : (yL k x).length ≤ 1 := by
   unfold yL
   split
   ·simp
   ·split <;> simp
  have h2 : (trT tr).length ≤ 1 := by cases tr <;> simp [trT]
  simp only [qW, wtT, List.length_append, List.length_map]
  omega
theorem qO : ∀ ts : List Tr, (jH ts).length ≤ 2 * fA ts
 | [] => by simp [jH]
 | t :: ts => by
  have := pT t
  have := qO ts
  simp only [jH, fA, List.length_append]
  omega
end
mutual
theorem tL : ∀ t : Tr, (qH t).length ≤ 2 * wtT t
 | .mk k x ks ld ft tr => by
  have := xN ks
  have h2 : (trT tr).length ≤ 1 := by cases tr <;> simp [trT]
  simp only [qH, wtT, List.length_append, List.length_map]
  omega
theorem xN : ∀ ts : List Tr, (jB ts).length ≤ 2 * fA ts
 | [] => by simp [jB]
 | t :: ts => by
  have := tL t
  have := xN ts
  simp only [jB, fA, List.length_append]
  omega
end
theorem kA : ∀ ds : List Dc, (xE ds).length ≤ 2 * uC ds
 | [] => by simp [xE]
 | d :: ds => by
  have := pT d.rt
  have := kA ds
  simp only [xE, jHd, uC, List.length_append, List.length_map]
  omega
theorem nO : ∀ ds : List Dc, (yC ds).length ≤ 2 * uC ds
 | [] => by simp [yC]
 | d :: ds => by
  have := tL d.rt
  have := nO ds
  simp only [yC, jMz, uC, List.length_append, List.length_map]
  omega
theorem jAl {c : Nat} (h : c < 256) (p : Tx) : byZ (jC c p).2 0 = c := by
 unfold byZ jC
 simp only [Int.toNat_zero, Nat.pow_zero, Nat.div_one, Nat.pow_one, Nat.add_mul_mod_self_right, Nat.mod_eq_of_lt h]
def isN (p : Tx) : Bool := decide (byZ p.2 0 = 35)
theorem eD (l : List Tx) : (l.map (jC 35)).filter isN = l.map (jC 35) := by
 rw [List.filter_eq_self]
 intro p hp
 obtain ⟨q, _, rfl⟩ := List.mem_map.1 hp
 unfold isN
 rw [jAl (by omega)]; rfl
theorem jZb (tr : Option Tx) : (trT tr).filter isN = trT tr := by
 cases tr with
 | none => rfl
 | some p => exact eD [p]
theorem jUv (k : Int) (x : Tx) : (yL k x).filter isN = [] := by
 unfold yL
 split
 ·simp [isN, jAl (c := 42) (by omega)]
 ·split
  ·simp [isN, jAl (c := 61) (by omega)]
  ·rfl
mutual
theorem jYi : ∀ t : Tr, (qW t).filter isN = qH t
 | .mk k x ks ld ft tr => by
  simp only [qW, qH, List.filter_append, eD, jZb, jUv, jRa ks, List.nil_append]
theorem jRa : ∀ ts : List Tr, (jH ts).filter isN = jB ts
 | [] => rfl
 | t :: ts => by simp only [jH, jB, List.filter_append, jYi t, jRa ts]
end
theorem jTf : ∀ ds : List Dc, (xE ds).filter isN = yC ds
 | [] => rfl
 | d :: ds => by simp only [xE, yC, jHd, jMz, List.filter_append, eD, jYi, jTf ds]
theorem qDf (ds : List Dc) (tl : List Tx) : (lW ds tl).filter isN = jBk ds tl := by
 simp only [lW, jBk, List.filter_append, eD, jTf]
theorem jXr (ds : List Dc) (tl : List Tx) : ∀ p, p ∈ lW ds tl → 1 ≤ p.1 := by
 have hm : ∀ (l : List Tx) p, p ∈ l.map (jC 35) → 1 ≤ p.1 := fun l p hp => by
  obtain ⟨q, _, rfl⟩ := List.mem_map.1 hp; show 1 ≤ 1 + q.1; omega
 have hl : ∀ (k : Int) (x : Tx) p, p ∈ yL k x → 1 ≤ p.1 := fun k x p hp => by
  unfold yL at hp
  split at hp
  ·simp at hp; subst hp; show 1 ≤ 1 + x.1; omega
  ·split at hp
   ·simp at hp; subst hp; show 1 ≤ 1 + x.1; omega
   ·simp at hp
 have ht : ∀ tr p, p ∈ trT tr → 1 ≤ p.1 := fun tr p hp => by
  cases tr with
  | none => simp [trT] at hp
  | some q => exact hm [q] p hp
 have hT : ∀ t : Tr, ∀ p, p ∈ qW t → 1 ≤ p.1 := fun t =>
  Tr.rec (motive_1 := fun t => ∀ p, p ∈ qW t → 1 ≤ p.1) (motive_2 := fun ts => ∀ p, p ∈ jH ts → 1 ≤ p.1)
   (fun k x ks ld ft tr ih p hp => by
    simp only [qW, List.mem_append] at hp
    rcases hp with hp | hp | hp | hp | hp
    ·exact hm _ p hp
    ·exact hl _ _ p hp
    ·exact ih p hp
    ·exact hm _ p hp
    ·exact ht _ p hp)
   (fun p hp => by simp [jH] at hp)
   (fun t ts h1 h2 p hp => by
    simp only [jH, List.mem_append] at hp
    rcases hp with hp | hp
    ·exact h1 p hp
    ·exact h2 p hp) t
 have hD : ∀ ds : List Dc, ∀ p, p ∈ xE ds → 1 ≤ p.1 := fun ds => by
  induction ds with
  | nil => intro p hp; simp [xE] at hp
  | cons d ds ih =>
   intro p hp
   simp only [xE, jHd, List.mem_append] at hp
   rcases hp with (hp | hp | hp) | hp
   ·exact hm _ p hp
   ·exact hT _ p hp
   ·exact hm _ p hp
   ·exact ih p hp
 intro p hp
 simp only [lW, List.mem_append] at hp
 rcases hp with hp | hp
 ·exact hD _ p hp
 ·exact hm _ p hp
theorem xB (a b : List Tx) : (a ++ b).isEmpty = (a.isEmpty && b.isEmpty) := by cases a <;> simp
theorem wQ (l : List Tx) (f : Tx → Tx) : (l.map f).isEmpty = l.isEmpty := by cases l <;> rfl
mutual
theorem jYh : ∀ t : Tr, (!(qH t).isEmpty) = (!t.ld.isEmpty || ntd t)
 | .mk k x ks ld ft tr => by
  have := jTa ks
  simp only [qH, Tr.ld, ntd, xB, wQ]
  rw [← this]
  cases ld.isEmpty <;> cases ft.isEmpty <;> cases (jB ks).isEmpty <;> cases tr <;> rfl
theorem jTa : ∀ ts : List Tr, (!(jB ts).isEmpty) = bA ts
 | [] => rfl
 | t :: ts => by
  have h1 := jYh t
  have h2 := jTa ts
  simp only [jB, bA, xB]
  rw [← h1, ← h2]
  cases (qH t).isEmpty <;> cases (jB ts).isEmpty <;> rfl
end
theorem jUx (k : Int) (x : Tx) (ks : List Tr) (ld ft : List Tx) (tr : Option Tx) : (!(qH (.mk k x ks [] ft tr)).isEmpty) = ntd (.mk k x ks ld ft tr) := by
 rw [jYh]; simp [Tr.ld, ntd]
structure Kd (C : Cx) : Prop where
 c0 : ∀ r, C.ct 0 r = [.s 0, .i .i64]
 c1 : ∀ r, C.ct 1 r = [.i .i64, .i .i64, .i .i64, .i .i64, .s 0, .s 0, .s 100000000000, .q 1 (r - 1), .q 0 (r - 1), .q 0 (r - 1), .b, .s 0]
 c3 : ∀ r, C.ct 3 r = [.q 0 (r - 1), .q 4 0, .b, .i .i64, .i .i64, .i .i64, .i .i64, .s 0, .s 0, .s 100000000000, .q 1 (r - 1), .q 0 (r - 1), .q 0 (r - 1), .b, .s 0, .q 0 (r - 1)]
 o0 : C.co 0 = 1
 o1 : C.co 1 = 1
 o3 : C.co 3 = 1
section
variable {C : Cx}
theorem jU {T j x : Nat} {c : Nd} {l : List Nd} (h : jGa C T j (c :: l) x) : ∃ y x', y + x' ≤ x ∧ (∃ t, (C.ct T (C.co T + y))[j]? = some t ∧ ndT C c t) ∧ jGa C T (j + 1) l x' := by rw [jGa] at h; exact h
theorem jEu {c : Nd} {k : IntKind} (h : ndT C c (.i k)) : ∃ n, c = .i k n := by
 cases c with
 | i k' n => simp only [ndT] at h; cases h; exact ⟨_, rfl⟩
 | b x => simp only [ndT] at h; cases h
 | s n u => simp only [ndT] at h; obtain ⟨m, e, _⟩ := h; cases e
 | q w l => obtain ⟨T, r, e, _⟩ := aK.1 h; cases e
theorem jZg {c : Nd} (h : ndT C c .b) : ∃ x, c = .b x := by
 cases c with
 | i k' n => simp only [ndT] at h; cases h
 | b x => exact ⟨_, rfl⟩
 | s n u => simp only [ndT] at h; obtain ⟨m, e, _⟩ := h; cases e
 | q w l => obtain ⟨T, r, e, _⟩ := aK.1 h; cases e
theorem jEg {c : Nd} {m : Nat} (h : ndT C c (.s m)) : ∃ n u, c = .s n u ∧ n ≤ SS + m := by
 cases c with
 | i k' n => simp only [ndT] at h; cases h
 | b x => simp only [ndT] at h; cases h
 | s n u => simp only [ndT] at h; obtain ⟨m', e, h1, _⟩ := h; cases e; exact ⟨_, _, rfl, h1⟩
 | q w l => obtain ⟨T, r, e, _⟩ := aK.1 h; cases e
theorem bI {c : Nd} {T r : Nat} (h : ndT C c (.q T r)) : ∃ l, c = .q (jS (C.ct T 0)) l ∧ l.length ≤ NB ∧ kE C T l r := by
 cases c with
 | i k' n => simp only [ndT] at h; cases h
 | b x => simp only [ndT] at h; cases h
 | s n u => simp only [ndT] at h; obtain ⟨m', e, h1, _⟩ := h; cases e
 | q w l => obtain ⟨T, r, e, h1, h2, h3⟩ := aK.1 h; cases e; exact ⟨_, by rw [h1], h2, h3⟩
theorem jPe (hC : Kd C) : ∀ {l : List (List Nd)} {r : Nat}, kE C 0 l r → ∃ ps, isC ps l ∧ ps.length = l.length ∧ l.length ≤ r ∧ jGp ps
 | [], r, _ => ⟨[], rfl, rfl, Nat.zero_le _, fun p hp => by cases hp⟩
 | c :: l, r, h => by
  simp only [kE] at h
  obtain ⟨x, r', h1, ⟨h2, h3⟩, h4⟩ := h
  obtain ⟨ps, p1, p2, p3, p4⟩ := jPe hC h4
  rw [hC.c0] at h2
  rw [hC.o0] at h1
  match c, h2, h3 with
  | [a, b], _, h3 =>
   obtain ⟨y, x1, _, ⟨t, e1, n1⟩, h3⟩ := jU h3
   obtain ⟨y, x2, _, ⟨t', e2, n2⟩, h3⟩ := jU h3
   rw [hC.c0] at e1 e2
   simp at e1 e2
   subst e1; subst e2
   obtain ⟨n, u, rfl, hn⟩ := jEg n1
   obtain ⟨z, rfl⟩ := jEu n2
   refine ⟨(n, u) :: ps, ⟨_, _, _, rfl, p1⟩, by simp [p2], by simp; omega, fun p hp => ?_⟩
   rcases List.mem_cons.1 hp with rfl | hp
   ·have e1 : SS = 1000000 := rfl
    show n ≤ 200000000000; omega
   ·exact p4 p hp
  | [], h2, _ => simp [jS] at h2
  | [_], h2, _ => simp [jS] at h2
  | _ :: _ :: _ :: _, h2, _ => simp [jS] at h2
theorem qCz {c : List Nd} (h : c.length = 12) : ∃ c0 c1 c2 c3 c4 c5 c6 c7 c8 c9 c10 c11, c = [c0, c1, c2, c3, c4, c5, c6, c7, c8, c9, c10, c11] := by
 match c, h with
 | [c0, c1, c2, c3, c4, c5, c6, c7, c8, c9, c10, c11], _ => exact ⟨c0, c1, c2, c3, c4, c5, c6, c7, c8, c9, c10, c11, rfl⟩
theorem qBz {c : List Nd} (h : c.length = 16) : ∃ c0 c1 c2 c3 c4 c5 c6 c7 c8 c9 c10 c11 c12 c13 c14 c15, c = [c0, c1, c2, c3, c4, c5, c6, c7, c8, c9, c10, c11, c12, c13, c14, c15] := by
 match c, h with
 | [c0, c1, c2, c3, c4, c5, c6, c7, c8, c9, c10, c11, c12, c13, c14, c15], _ => exact ⟨c0, c1, c2, c3, c4, c5, c6, c7, c8, c9, c10, c11, c12, c13, c14, c15, rfl⟩
theorem qBw (hC : Kd C) {r : Nat} (kids : ∀ (l : List (List Nd)) (y : Nat), y ≤ r → kE C 1 l y → ∃ ts, sW ts l ∧ ts.length = l.length ∧ fA ts ≤ y ∧ jGj ts)
  {l7 l8 l9 : List (List Nd)} {y7 y8 y9 : Nat} (hr : y7 ≤ r) (b7 : l7.length ≤ NB) (b8 : l8.length ≤ NB) (b9 : l9.length ≤ NB) (r7 : kE C 1 l7 y7) (r8 : kE C 0 l8 y8) (r9 : kE C 0 l9 y9)
  {k0 : Int} {n1 n2 n3 : Int} {m4 v4 m5 v5 m6 v6 m11 v11 : Nat} {z : Bool} (h6 : m6 ≤ SS + 100000000000) (h11 : m11 ≤ SS + 0) :
  ∃ t, isT t [.i .i64 k0, .i .i64 n1, .i .i64 n2, .i .i64 n3, .s m4 v4, .s m5 v5, .s m6 v6, .q 12 l7, .q 2 l8, .q 2 l9, .b z, .s m11 v11] ∧ wtT t ≤ 1 + y7 + y8 + y9 ∧ okT t := by
 have e1 : SS = 1000000 := rfl
 obtain ⟨ks, a1, a2, a3, a4⟩ := kids l7 y7 hr r7
 obtain ⟨ld, p1, p2, p3, p4⟩ := jPe hC r8
 obtain ⟨ft, q1, q2, q3, q4⟩ := jPe hC r9
 refine ⟨.mk k0 (m6, v6) ks ld ft (if z = true then some (m11, v11) else none), ?_, ?_, ?_⟩
 ·simp only [isT]
  exact ⟨_, _, _, _, _, _, _, _, _, _, _, _, _, rfl, a1, p1, q1, rfl⟩
 ·simp only [wtT]; omega
 ·simp only [okT]
  refine ⟨by show m6 ≤ 200000000000; omega, a4, p4, q4, fun p hp => ?_, by omega, by omega, by omega⟩
  split at hp
  ·cases hp; show m11 ≤ 200000000000; omega
  ·cases hp
theorem qCb (hC : Kd C) : ∀ (r : Nat) (l : List (List Nd)), kE C 1 l r → ∃ ts, sW ts l ∧ ts.length = l.length ∧ fA ts ≤ r ∧ jGj ts := by
 intro r
 induction r using Nat.strongRecOn with
 | ind r ih =>
 intro l h
 match l, h with
 | [], _ => exact ⟨[], by simp only [sW], rfl, by simp [fA], by simp only [jGj]⟩
 | c :: l, h =>
 simp only [kE] at h
 obtain ⟨x, r', hx, ⟨hl, h⟩, h4⟩ := h
 rw [hC.o1] at hx
 rw [hC.c1] at hl
 obtain ⟨ts, g1, g2, g3, g4⟩ := ih r' (by omega) l h4
 obtain ⟨c0, c1, c2, c3, c4, c5, c6, c7, c8, c9, c10, c11, rfl⟩ := qCz hl
 obtain ⟨y0, x0, s0, ⟨t0, e0, n0⟩, h⟩ := jU h
 obtain ⟨y1, x1, s1, ⟨t1, e1, n1⟩, h⟩ := jU h
 obtain ⟨y2, x2, s2, ⟨t2, e2, n2⟩, h⟩ := jU h
 obtain ⟨y3, x3, s3, ⟨t3, e3, n3⟩, h⟩ := jU h
 obtain ⟨y4, x4, s4, ⟨t4, e4, n4⟩, h⟩ := jU h
 obtain ⟨y5, x5, s5, ⟨t5, e5, n5⟩, h⟩ := jU h
 obtain ⟨y6, x6, s6, ⟨t6, e6, n6⟩, h⟩ := jU h
 obtain ⟨y7, x7, s7, ⟨t7, e7, n7⟩, h⟩ := jU h
 obtain ⟨y8, x8, s8, ⟨t8, e8, n8⟩, h⟩ := jU h
 obtain ⟨y9, x9, s9, ⟨t9, e9, n9⟩, h⟩ := jU h
 obtain ⟨y10, x10, s10, ⟨t10, e10, n10⟩, h⟩ := jU h
 obtain ⟨y11, x11, s11, ⟨t11, e11, n11⟩, h⟩ := jU h
 rw [hC.o1] at e0 e1 e2 e3 e4 e5 e6 e7 e8 e9 e10 e11
 rw [hC.c1] at e0
 simp at e0
 subst e0
 rw [hC.c1] at e1
 simp at e1
 subst e1
 rw [hC.c1] at e2
 simp at e2
 subst e2
 rw [hC.c1] at e3
 simp at e3
 subst e3
 rw [hC.c1] at e4
 simp at e4
 subst e4
 rw [hC.c1] at e5
 simp at e5
 subst e5
 rw [hC.c1] at e6
 simp at e6
 subst e6
 rw [hC.c1] at e7
 simp at e7
 subst e7
 rw [hC.c1] at e8
 simp at e8
 subst e8
 rw [hC.c1] at e9
 simp at e9
 subst e9
 rw [hC.c1] at e10
 simp at e10
 subst e10
 rw [hC.c1] at e11
 simp at e11
 subst e11
 obtain ⟨z0, rfl⟩ := jEu n0
 obtain ⟨z1, rfl⟩ := jEu n1
 obtain ⟨z2, rfl⟩ := jEu n2
 obtain ⟨z3, rfl⟩ := jEu n3
 obtain ⟨z4, u4, rfl, m4⟩ := jEg n4
 obtain ⟨z5, u5, rfl, m5⟩ := jEg n5
 obtain ⟨z6, u6, rfl, m6⟩ := jEg n6
 obtain ⟨l7, rfl, b7, r7⟩ := bI n7
 obtain ⟨l8, rfl, b8, r8⟩ := bI n8
 obtain ⟨l9, rfl, b9, r9⟩ := bI n9
 obtain ⟨z10, rfl⟩ := jZg n10
 obtain ⟨z11, u11, rfl, m11⟩ := jEg n11
 rw [hC.c1, hC.c0]
 obtain ⟨t, k1, k2, k3⟩ := qBw hC (r := x) (fun l y hy h => ih y (by omega) l h) (by omega) b7 b8 b9 r7 r8 r9 m6 m11
 exact ⟨t :: ts, by simp only [sW]; exact ⟨_, _, rfl, k1, g1⟩, by simp [g2], by simp only [fA]; omega, by simp only [jGj]; exact ⟨k3, g4⟩⟩
set_option maxRecDepth 4000 in
theorem jXu (hC : Kd C) : ∀ {l : List (List Nd)} {r : Nat}, kE C 3 l r → ∃ ds, jUb ds l ∧ ds.length = l.length ∧ uC ds ≤ r ∧ jWu ds
 | [], r, h => ⟨[], rfl, rfl, Nat.zero_le _, trivial⟩
 | c :: l, r, h => by
  simp only [kE] at h
  obtain ⟨x, r', hx, ⟨hl, h⟩, h4⟩ := h
  rw [hC.o3] at hx
  rw [hC.c3] at hl
  obtain ⟨ds, g1, g2, g3, g4⟩ := jXu hC h4
  obtain ⟨c0, c1, c2, c3, c4, c5, c6, c7, c8, c9, c10, c11, c12, c13, c14, c15, rfl⟩ := qBz hl
  obtain ⟨y0, x0, s0, ⟨t0, e0, n0⟩, h⟩ := jU h
  obtain ⟨y1, x1, s1, ⟨t1, e1, n1⟩, h⟩ := jU h
  obtain ⟨y2, x2, s2, ⟨t2, e2, n2⟩, h⟩ := jU h
  obtain ⟨y3, x3, s3, ⟨t3, e3, n3⟩, h⟩ := jU h
  obtain ⟨y4, x4, s4, ⟨t4, e4, n4⟩, h⟩ := jU h
  obtain ⟨y5, x5, s5, ⟨t5, e5, n5⟩, h⟩ := jU h
  obtain ⟨y6, x6, s6, ⟨t6, e6, n6⟩, h⟩ := jU h
  obtain ⟨y7, x7, s7, ⟨t7, e7, n7⟩, h⟩ := jU h
  obtain ⟨y8, x8, s8, ⟨t8, e8, n8⟩, h⟩ := jU h
  obtain ⟨y9, x9, s9, ⟨t9, e9, n9⟩, h⟩ := jU h
  obtain ⟨y10, x10, s10, ⟨t10, e10, n10⟩, h⟩ := jU h
  obtain ⟨y11, x11, s11, ⟨t11, e11, n11⟩, h⟩ := jU h
  obtain ⟨y12, x12, s12, ⟨t12, e12, n12⟩, h⟩ := jU h
  obtain ⟨y13, x13, s13, ⟨t13, e13, n13⟩, h⟩ := jU h
  obtain ⟨y14, x14, s14, ⟨t14, e14, n14⟩, h⟩ := jU h
  obtain ⟨y15, x15, s15, ⟨t15, e15, n15⟩, h⟩ := jU h
  rw [hC.o3] at e0 e1 e2 e3 e4 e5 e6 e7 e8 e9 e10 e11 e12 e13 e14 e15
  rw [hC.c3] at e0
  simp at e0
  subst e0
  rw [hC.c3] at e1
  simp at e1
  subst e1
  rw [hC.c3] at e2
  simp at e2
  subst e2
  rw [hC.c3] at e3
  simp at e3
  subst e3
  rw [hC.c3] at e4
  simp at e4
  subst e4
  rw [hC.c3] at e5
  simp at e5
  subst e5
  rw [hC.c3] at e6
  simp at e6
  subst e6
  rw [hC.c3] at e7
  simp at e7
  subst e7
  rw [hC.c3] at e8
  simp at e8
  subst e8
  rw [hC.c3] at e9
  simp at e9
  subst e9
  rw [hC.c3] at e10
  simp at e10
  subst e10
  rw [hC.c3] at e11
  simp at e11
  subst e11
  rw [hC.c3] at e12
  simp at e12
  subst e12
  rw [hC.c3] at e13
  simp at e13
  subst e13
  rw [hC.c3] at e14
  simp at e14
  subst e14
  rw [hC.c3] at e15
  simp at e15
  subst e15
  obtain ⟨l0, rfl, b0, r0⟩ := bI n0
  obtain ⟨l1, rfl, b1, r1⟩ := bI n1
  obtain ⟨z2, rfl⟩ := jZg n2
  obtain ⟨z3, rfl⟩ := jEu n3
  obtain ⟨z4, rfl⟩ := jEu n4
  obtain ⟨z5, rfl⟩ := jEu n5
  obtain ⟨z6, rfl⟩ := jEu n6
  obtain ⟨z7, u7, rfl, m7⟩ := jEg n7
  obtain ⟨z8, u8, rfl, m8⟩ := jEg n8
  obtain ⟨z9, u9, rfl, m9⟩ := jEg n9
  obtain ⟨l10, rfl, b10, r10⟩ := bI n10
  obtain ⟨l11, rfl, b11, r11⟩ := bI n11
  obtain ⟨l12, rfl, b12, r12⟩ := bI n12
  obtain ⟨z13, rfl⟩ := jZg n13
  obtain ⟨z14, u14, rfl, m14⟩ := jEg n14
  obtain ⟨l15, rfl, b15, r15⟩ := bI n15
  rw [hC.c1, hC.c0]
  obtain ⟨t, k1, k2, k3⟩ := qBw hC (r := y10) (fun l y hy h => qCb hC y l h) (Nat.le_refl _) b10 b11 b12 r10 r11 r12 m9 m14
  obtain ⟨hd, p1, p2, p3, p4⟩ := jPe hC r0
  obtain ⟨ft, q1, q2, q3, q4⟩ := jPe hC r15
  refine ⟨⟨hd, t, ft⟩ :: ds, ⟨_, _, rfl, ⟨_, _, _, _, _, _, rfl, p1, k1, q1⟩, g1⟩, by simp [g2], ?_, ⟨⟨p4, k3, q4, by show hd.length ≤ NB; omega, by show ft.length ≤ NB; omega⟩, g4⟩⟩
  show (hd.length + (wtT t + ft.length)) + uC ds ≤ r
  omega
end
end
end Go.Proofs.YthfmepmchaofjaaGreat.Ev.Lf
end
section
set_option linter.all false
namespace Go.Proofs.YthfmepmchaofjaaGreat.Ev.Lf
noncomputable section
open Go Ev Rf
mutual
theorem jKz : ∀ (s s' : SV), jX s = true → jX s' = true → toA s = toA s' → s = s'
 | .b x, s', _, h, e => by cases s' <;> simp [jX] at h <;> simp [toA] at e; rw [e]
 | .i k n, s', _, h, e => by cases s' <;> simp [jX] at h <;> simp [toA] at e; rw [e.1, e.2]
 | .s n v, s', _, h, e => by cases s' <;> simp [jX] at h <;> simp [toA] at e; rw [e.1, e.2]
 | .tup l, s', f, h, e => by
  cases s' <;> simp only [jX] at h <;> simp only [toA] at e <;> try (cases h)
  all_goals first | (cases e; done) | skip
  rename_i l'
  have := jIc l l' (by simpa only [jX] using f) h (by simpa using e)
  rw [this]
 | .p0, _, f, _, _ => by simp [jX] at f
 | .sl0, _, f, _, _ => by simp [jX] at f
 | .tp _ _ _, _, f, _, _ => by simp [jX] at f
 | .te _ _ _ _, _, f, _, _ => by simp [jX] at f
 | .ts _ _ _ _, _, f, _, _ => by simp [jX] at f
 | .q _ _ _, _, f, _, _ => by simp [jX] at f
 | .qp _ _ _, _, f, _, _ => by simp [jX] at f
 | .qs _, _, f, _, _ => by simp [jX] at f
 | .xs _, _, f, _, _ => by simp [jX] at f
 | .f _ _ _, _, f, _, _ => by simp [jX] at f
 | .agg _, _, f, _, _ => by simp [jX] at f
 | .fis _, _, f, _, _ => by simp [jX] at f
 | .fqs, _, f, _, _ => by simp [jX] at f
 | .qx _ _, _, f, _, _ => by simp [jX] at f
 | .xp _, _, f, _, _ => by simp [jX] at f
theorem jIc : ∀ (l l' : List SV), yH l = true → yH l' = true → aT l = aT l' → l = l'
 | [], [], _, _, _ => rfl
 | [], _ :: _, _, _, e => by simp [aT] at e
 | _ :: _, [], _, _, e => by simp [aT] at e
 | x :: l, y :: l', f, h, e => by
  simp only [yH, Bool.and_eq_true] at f h
  simp only [aT, List.cons.injEq] at e
  rw [jKz x y f.1 h.1 e.1, jIc l l' f.2 h.2 e.2]
end
def Gr (fs : Nat → Option F) (orc : Nat → List AV → Option AV) (L : Nat) : Nat → List SV → SV → Prop := fun f l s => jX s = true ∧ ∃ d σ', evF fs orc L d f (aT l) gR = some (toA s, σ')
theorem qAu (fs : Nat → Option F) (orc : Nat → List AV → Option AV) (L : Nat) : gF (Gr fs orc L) := by
 rintro f l s s' ⟨h1, d, σ1, h2⟩ ⟨h3, d', σ2, h4⟩
 have a := jSc (Nat.le_max_left d d') _ _ _ _ h2
 have b := jSc (Nat.le_max_right d d') _ _ _ _ h4
 rw [a] at b
 simp only [Option.some.injEq, Prod.mk.injEq] at b
 exact jKz _ _ h1 h3 b.1
theorem qCa {C : Cx} {fs : Nat → Option F} {orc : Nat → List AV → Option AV} {L : Nat} (h : C.G = Gr fs orc L) (d : Nat) : GOK C (evF fs orc L d) := by
 intro f l s σ' h1 h2 h3
 rw [h]
 exact ⟨h2, d, σ', h3⟩
theorem qDo {P : PX} {G : Nat → List SV → SV → Prop} (hpos : ∀ T, 0 < (P.ct T).length) : vQ (P.C G) := by
 refine ⟨fun T r h => ?_, fun T r r' => ?_, fun T r r' j t t' hr e e' => ?_, fun T r r' => ?_, fun T r => ?_⟩
 ·show if P.cp T = true then 1 ≤ r else True
  change (bif P.cp T then 1 else 0) ≤ r at h
  cases hc : P.cp T
  ·simp
  ·rw [hc] at h; simpa using h
 ·show ((P.ct T).map _).length = ((P.ct T).map _).length
  rw [List.length_map, List.length_map]
 ·change ((P.ct T).map (TyX.at r))[j]? = some t at e
  change ((P.ct T).map (TyX.at r'))[j]? = some t' at e'
  rw [List.getElem?_map] at e e'
  cases hx : (P.ct T)[j]? with
  | none => rw [hx] at e; cases e
  | some x =>
   rw [hx] at e e'
   cases e; cases e'
   cases x with
   | q T' d => cases d with
    | none => exact ⟨rfl, Nat.le_refl _⟩
    | some d => exact ⟨rfl, by omega⟩
   | _ => rfl
 ·show mO ((P.ct T).map (TyX.at r)) = mO ((P.ct T).map (TyX.at r'))
  rw [eU, eU]
 ·show 0 < ((P.ct T).map _).length
  rw [List.length_map]; exact hpos T
end
end Go.Proofs.YthfmepmchaofjaaGreat.Ev.Lf
end
section
set_option linter.all false
namespace Go.Proofs.YthfmepmchaofjaaGreat.Ev.Lf
noncomputable section
open Go Ev Rf
set_option maxRecDepth 2000
set_option maxHeartbeats 4000000
def g29 : F := ⟨2, [], .skip⟩
def g75 : F := ⟨2, [], .skip⟩
abbrev Ct := Nat → List SV → Hp → Q2 → Prop
theorem qM {b : Bool} {p q : Prop} (h1 : b = true → p) (h2 : b = false → q) : brn b p q := by cases b; exact h2 rfl; exact h1 rfl
theorem jN {C : Cx} {L : Nat} {body : Env → Hp → QK → Prop} {E : Env} {H : Hp} {Q : QK} (id : Nat) (h : ∃ (ks : List Nat) (cv : List (Cv × Nat)), cvs C E H cv fun E' H' => ∃ (α : Type) (F : α → Env) (G : α → Hp) (I : α → Prop) (m : α → Nat), (∃ p, Sub (F p ++ vY E' ks) E' ∧ H' = G p ∧ I p ∧ m p < L) ∧ ∀ p, I p → body (F p ++ vY E' ks) (G p) (lpQ (fun p => F p ++ vY E' ks) G I m (m p) (jS (G p)) (jWo id Q))) : lA C L body E H (jWo id Q) := by unfold lA; exact h
def LL : Nat := 2000000000000
theorem yK : ∀ {ps : List Tx} {rows : List (List Nd)}, isC ps rows → ps.length = rows.length
 | [], rows, h => by cases h; rfl
 | p :: ps, rows, h => by obtain ⟨k, b, r, rfl, h⟩ := h; simp [yK h]
theorem qY : ∀ {ps : List Tx} {rows : List (List Nd)} {k : Nat} {row : List Nd}, isC ps rows → rows[k]? = some row → ∃ p kk b, ps[k]? = some p ∧ row = [.s p.1 p.2, .i kk b]
 | [], rows, k, row, h, e => by cases h; simp at e
 | p :: ps, rows, k, row, h, e => by
  obtain ⟨kk, b, r, rfl, h⟩ := h
  cases k with
  | zero => simp at e; subst e; exact ⟨p, kk, b, rfl, rfl⟩
  | succ k =>
   obtain ⟨q, kk, b, h1, h2⟩ := qY (rows := r) (k := k) h (by simpa using e)
   exact ⟨q, kk, b, by simpa using h1, h2⟩
theorem jI {α : Type} {l : List α} {k : Nat} {p : α} (h : l[k]? = some p) : l.take (k + 1) = l.take k ++ [p] := by
 rw [List.take_add_one, h]; rfl
theorem zW {g : Nat} {p : Prop} (h : p) : req (Nat.beq g g) p := by rw [show Nat.beq g g = true from Nat.beq_refl g]; exact h
abbrev SB (D E : List (List Nd)) : HB := ⟨27, 0, .l [.qx 16 D, .qx 2 E]⟩
def fD : Ct := fun d l H Q => ∃ (D E : List (List Nd)) (o : List Tx) (g n : Nat) (ps : List Tx) (rows : List (List Nd)), l = [.ts 1 g n 1, .qx 2 rows] ∧ H = [SB D E, ⟨9, g, .xs o⟩] ∧ n = o.length ∧ isC ps rows ∧ jGp ps ∧
 n + ps.length ≤ 5000000000000 ∧ ps.length ≤ NB ∧ 1 ≤ d ∧ Q (.ts 1 (g + ps.length) (n + ps.length) 1) [SB D E, ⟨9, g + ps.length, .xs (o ++ ps.map (jC 35))⟩]
def jHq : Ct := fun d l H Q => ∃ (D E : List (List Nd)) (o : List Tx) (g n : Nat) (t : Tr) (row : List Nd), l = [.ts 1 g n 1, .agg (row.map ofN)] ∧ H = [SB D E, ⟨9, g, .xs o⟩] ∧ n = o.length ∧ isT t row ∧ okT t ∧
 n + 2 * wtT t ≤ 5000000000000 ∧ wtT t + 5 ≤ d ∧ Q (.ts 1 (g + (qW t).length) (n + (qW t).length) 1) [SB D E, ⟨9, g + (qW t).length, .xs (o ++ qW t)⟩]
theorem wA : ∀ {ts : List Tr} {rows : List (List Nd)}, sW ts rows → ts.length = rows.length
 | [], rows, h => by simp only [sW] at h; subst h; rfl
 | t :: ts, rows, h => by simp only [sW] at h; obtain ⟨r, rs, rfl, _, h⟩ := h; simp [wA h]
theorem qK : ∀ {ts : List Tr} {rows : List (List Nd)} {k : Nat} {row : List Nd}, sW ts rows → rows[k]? = some row → ∃ t, ts[k]? = some t ∧ isT t row
 | [], rows, k, row, h, e => by simp only [sW] at h; subst h; simp at e
 | t :: ts, rows, k, row, h, e => by
  simp only [sW] at h
  obtain ⟨r, rs, rfl, h1, h⟩ := h
  cases k with
  | zero => simp at e; subst e; exact ⟨t, rfl, h1⟩
  | succ k =>
   obtain ⟨q, h2, h3⟩ := qK (rows := rs) (k := k) h (by simpa using e)
   exact ⟨q, by simpa using h2, h3⟩
theorem yQ : ∀ (a b : List Tr), jH (a ++ b) = jH a ++ jH b
 | [], b => rfl
 | t :: a, b => by simp only [List.cons_append, jH, yQ a b, List.append_assoc]
theorem iI : ∀ (a b : List Tr), fA (a ++ b) = fA a + fA b
 | [], b => by simp [fA]
 | t :: a, b => by simp only [List.cons_append, fA, iI a b]; omega
theorem qI : ∀ {ts : List Tr} {t : Tr} {k : Nat}, jGj ts → ts[k]? = some t → okT t
 | [], t, k, h, e => by simp at e
 | a :: ts, t, k, h, e => by
  simp only [jGj] at h
  cases k with
  | zero => simp at e; subst e; exact h.1
  | succ k => exact qI (k := k) h.2 (by simpa using e)
theorem qL {ts : List Tr} {t : Tr} {k : Nat} (h : ts[k]? = some t) : fA (ts.take k) + wtT t ≤ fA ts := by
 have h1 := jI h
 have h2 : fA ts = fA (ts.take (k + 1)) + fA (ts.drop (k + 1)) := by rw [← iI, List.take_append_drop]
 rw [h2, h1, iI]
 simp only [fA]; omega
theorem fR : ∀ {ds : List Dc} {rows : List (List Nd)}, jUb ds rows → ds.length = rows.length
 | [], rows, h => by cases h; rfl
 | d :: ds, rows, h => by obtain ⟨r, rs, rfl, _, h⟩ := h; simp [fR h]
theorem fU : ∀ {ds : List Dc} {rows : List (List Nd)} {k : Nat} {row : List Nd}, jUb ds rows → rows[k]? = some row → ∃ d, ds[k]? = some d ∧ isD d row
 | [], rows, k, row, h, e => by cases h; simp at e
 | d :: ds, rows, k, row, h, e => by
  obtain ⟨r, rs, rfl, h1, h⟩ := h
  cases k with
  | zero => simp at e; subst e; exact ⟨d, rfl, h1⟩
  | succ k =>
   obtain ⟨q, h2, h3⟩ := fU (rows := rs) (k := k) h (by simpa using e)
   exact ⟨q, by simpa using h2, h3⟩
theorem sS : ∀ (a b : List Dc), xE (a ++ b) = xE a ++ xE b
 | [], b => rfl
 | t :: a, b => by simp only [List.cons_append, xE, sS a b, List.append_assoc]
theorem oI : ∀ (a b : List Dc), yC (a ++ b) = yC a ++ yC b
 | [], b => rfl
 | t :: a, b => by simp only [List.cons_append, yC, oI a b, List.append_assoc]
theorem lU : ∀ (a b : List Dc), uC (a ++ b) = uC a + uC b
 | [], b => by simp [uC]
 | t :: a, b => by simp only [List.cons_append, uC, lU a b]; omega
theorem fW : ∀ {ts : List Dc} {t : Dc} {k : Nat}, jWu ts → ts[k]? = some t → okD t
 | [], t, k, h, e => by simp at e
 | a :: ts, t, k, h, e => by
  cases k with
  | zero => simp at e; subst e; exact h.1
  | succ k => exact fW (k := k) h.2 (by simpa using e)
theorem bW {ts : List Dc} {t : Dc} {k : Nat} (h : ts[k]? = some t) : uC (ts.take k) + (t.hd.length + (wtT t.rt + t.ft.length)) ≤ uC ts := by
 have h1 := jI h
 have h2 : uC ts = uC (ts.take (k + 1)) + uC (ts.drop (k + 1)) := by rw [← lU, List.take_append_drop]
 rw [h2, h1, lU]
 simp only [uC]; omega
structure SOK (ds : List Dc) (tl : List Tx) (D E : List (List Nd)) : Prop where
 D : jUb ds D
 E : isC tl E
 od : jWu ds
 ot : jGp tl
 nd : ds.length ≤ NB
 nt : tl.length ≤ NB
 w : 2 * uC ds + tl.length ≤ 1000000000000
def oU : Ct := fun d l H Q => ∃ (D E : List (List Nd)) (ds : List Dc) (tl : List Tx), l = [.agg [.qx 16 D, .qx 2 E]] ∧ H = [] ∧ SOK ds tl D E ∧ uC ds + 8 ≤ d ∧ Q (.qs (lW ds tl)) []
def rM : Ct := fun d l H Q => ∃ (D E : List (List Nd)) (ds : List Dc) (tl : List Tx), l = [.agg [.qx 16 D, .qx 2 E]] ∧ H = [] ∧ SOK ds tl D E ∧ uC ds + 9 ≤ d ∧ Q (.qs (jBk ds tl)) []
theorem rD : ∀ (a b : List Tr), bA (a ++ b) = (bA a || bA b)
 | [], b => by simp [bA]
 | t :: a, b => by simp only [List.cons_append, bA, rD a b, Bool.or_assoc]
theorem pM (k : Int) : ∀ (a b : List Tr) (i : Nat), wP k i (a ++ b) = (wP k i a || wP k (i + a.length) b)
 | [], b, i => by simp [wP]
 | t :: a, b, i => by
  simp only [List.cons_append, wP, pM k a b (i + 1), Bool.or_assoc, List.length_cons]
  rw [show i + 1 + a.length = i + (a.length + 1) by omega]
theorem pC : ∀ (a b : List Dc), dL (a ++ b) = (dL a || dL b)
 | [], b => by simp [dL]
 | t :: a, b => by simp only [List.cons_append, dL, pC a b, Bool.or_assoc]
theorem jFx {ts : List Tr} {t : Tr} {k : Nat} (h : ts[k]? = some t) (h1 : (!t.ld.isEmpty || ntd t) = true) : bA ts = true := by
 rw [← List.take_append_drop (k + 1) ts, rD, jI h, rD]
 simp only [bA, h1]; simp
theorem wH {kk : Int} {ts : List Tr} {t : Tr} {k : Nat} (h : ts[k]? = some t) (h1 : ((decide (kk = 4) && decide (k % 2 = 0) && ntd t) || inn t) = true) : wP kk 0 ts = true := by
 have hk := (List.getElem?_eq_some_iff.1 h).1
 have hl : (ts.take k).length = k := by rw [List.length_take]; omega
 rw [← List.take_append_drop (k + 1) ts, pM, jI h, pM, hl, Nat.zero_add]
 simp only [wP, h1]; simp
theorem jFm {ts : List Dc} {t : Dc} {k : Nat} (h : ts[k]? = some t) (h1 : inn t.rt = true) : dL ts = true := by
 rw [← List.take_append_drop (k + 1) ts, pC, jI h, pC]
 simp only [dL, h1]; simp
theorem jPh {ts : List Tr} {t : Tr} {k : Nat} (h : ts[k]? = some t) (h0 : bA (ts.take k) = false) (h1 : (!t.ld.isEmpty || ntd t) = false) : bA (ts.take (k + 1)) = false := by
 rw [jI h, rD, h0]
 simp only [bA, h1]; rfl
theorem wZ {kk : Int} {ts : List Tr} {t : Tr} {k : Nat} (h : ts[k]? = some t) (h0 : wP kk 0 (ts.take k) = false) (h1 : ((decide (kk = 4) && decide (k % 2 = 0) && ntd t) || inn t) = false) : wP kk 0 (ts.take (k + 1)) = false := by
 have hk := (List.getElem?_eq_some_iff.1 h).1
 have hl : (ts.take k).length = k := by rw [List.length_take]; omega
 rw [jI h, pM, h0, hl, Nat.zero_add]
 simp only [wP, h1]; rfl
theorem jBw {ts : List Dc} {t : Dc} {k : Nat} (h : ts[k]? = some t) (h0 : dL (ts.take k) = false) (h1 : inn t.rt = false) : dL (ts.take (k + 1)) = false := by
 rw [jI h, pC, h0]
 simp only [dL, h1]; rfl
def dO : Ct := fun d l H Q => ∃ (t : Tr) (row : List Nd), l = [.agg (row.map ofN)] ∧ H = [] ∧ isT t row ∧ okT t ∧ wtT t + 5 ≤ d ∧ Q (.b (ntd t)) []
def bT : Ct := fun d l H Q => ∃ (t : Tr) (row : List Nd), l = [.agg (row.map ofN)] ∧ H = [] ∧ isT t row ∧ okT t ∧ wtT t + 5 ≤ d ∧ Q (.b (inn t)) []
def dP : Ct := fun d l H Q => ∃ (D E : List (List Nd)) (ds : List Dc) (tl : List Tx), l = [.agg [.qx 16 D, .qx 2 E]] ∧ H = [] ∧ SOK ds tl D E ∧ uC ds + 8 ≤ d ∧ Q (.b (dL ds)) []
theorem uB {p q : Prop} (h : p) : brn true p q := h
abbrev HR (D E : List (List Nd)) (o : List Tx) : Hp := [SB D E, ⟨32, 0, .l [.ts 2 o.length o.length 1]⟩, ⟨9, o.length, .xs o⟩]
def aY (c : Option Nat) : Ct := fun d l H Q => ∃ (D E : List (List Nd)) (o : List Tx) (x : Tx), l = [.s x.1 x.2, .tp 1 0 0] ∧ H = HR D E o ∧ x.1 ≤ 300000000000 ∧ o.length ≤ 5000000000000 ∧ 1 ≤ d ∧ Q (.tup []) (HR D E (o ++ [match c with | some c => jC c x | none => x]))
def jKb : Ct := fun d l H Q => ∃ (n v : Nat), l = [.s n v] ∧ H = [] ∧ 1 ≤ d ∧ Q (.tup []) []
abbrev HB1 (cs : List SV) (b : Bool) : Hp := [⟨51, 0, .l cs⟩, ⟨4, 0, .l [.b b]⟩]
def NCs (cs : List SV) : Prop := ∃ (k n1 n2 n3 : Int) (m4 v4 m5 v5 m6 v6 : Nat) (kr fr : List (List Nd)) (b : Bool) (rn rv : Nat), cs = [.i .i64 k, .i .i64 n1, .i .i64 n2, .i .i64 n3, .s m4 v4, .s m5 v5, .s m6 v6, .qx 12 kr, .sl0, .qx 2 fr, .b b, .s rn rv]
def jVm : Ct := fun d l H Q => ∃ (cs : List SV) (b : Bool) (n v : Nat), NCs cs ∧ l = [.s n v, .tp 1 0 0] ∧ H = HB1 cs b ∧ 1 ≤ d ∧ Q (.tup []) (HB1 cs true)
def jTw : Tr → List SV → Prop
 | .mk k x ks ld ft tr, cs => ∃ n1 n2 n3 m4 v4 m5 v5 kr lv fr b rn rv, cs = [.i .i64 k, .i .i64 n1, .i .i64 n2, .i .i64 n3, .s m4 v4, .s m5 v5, .s x.1 x.2, .qx 12 kr, lv, .qx 2 fr, .b b, .s rn rv] ∧ sW ks kr ∧ ((∃ lr, lv = .qx 2 lr ∧ isC ld lr) ∨ (lv = .sl0 ∧ ld = [])) ∧ isC ft fr ∧ tr = (if b = true then some (rn, rv) else none)
theorem uM {t : Tr} {row : List Nd} (h : isT t row) : jTw t (row.map ofN) := by
 cases t
 simp only [isT] at h
 obtain ⟨n1, n2, n3, m4, v4, m5, v5, kr, lr, fr, b, rn, rv, rfl, h1, h2, h3, h4⟩ := h
 exact ⟨n1, n2, n3, m4, v4, m5, v5, kr, _, fr, b, rn, rv, rfl, h1, .inl ⟨lr, rfl, h2⟩, h3, h4⟩
def lJ : Ct := fun d l H Q => ∃ (D E : List (List Nd)) (o : List Tx) (t : Tr) (row : List Nd), l = [.agg (row.map ofN), .f 24 [] [.tp 1 0 0], .f 25 [] [.tp 1 0 0]] ∧ H = HR D E o ∧ isT t row ∧ okT t ∧ o.length + 2 * wtT t ≤ 4000000000000 ∧ wtT t + 5 ≤ d ∧ Q (.tup []) (HR D E (o ++ qW t))
def lI : Ct := fun d l H Q => ∃ (D E : List (List Nd)) (o : List Tx) (t : Tr) (row : List Nd), l = [.agg (row.map ofN), .f 28 [] [.tp 1 0 0], .f 29 [] []] ∧ H = HR D E o ∧ isT t row ∧ okT t ∧ o.length + 2 * wtT t ≤ 4000000000000 ∧ wtT t + 5 ≤ d ∧ Q (.tup []) (HR D E (o ++ qH t))
def oH : Ct := fun d l H Q => ∃ (c0 : List SV) (o : Bool) (t : Tr) (cs : List SV), NCs c0 ∧ l = [.agg cs, .f 74 [] [.tp 1 0 0], .f 75 [] []] ∧ H = HB1 c0 o ∧ jTw t cs ∧ okT t ∧ wtT t + 5 ≤ d ∧ Q (.tup []) (HB1 c0 (o || !(qH t).isEmpty))
theorem zF : ∀ (a b : List Tr), jB (a ++ b) = jB a ++ jB b
 | [], b => rfl
 | t :: a, b => by simp only [List.cons_append, jB, zF a b, List.append_assoc]
abbrev CB (c : SV) : HB := ⟨57, 0, .l [c]⟩
def vL (c : SV) : Ct := fun d l H Q => ∃ (D E D' E' : List (List Nd)) (o ps : List Tx) (rows : List (List Nd)), l = [.qx 2 rows, .tp 4 0 0] ∧ H = HR D E o ++ [SB D' E', CB c] ∧ isC ps rows ∧ jGp ps ∧ ps.length ≤ NB ∧ o.length + ps.length ≤ 4000000000000 ∧ 2 ≤ d ∧ Q (.tup []) (HR D E (o ++ ps.map (jC 35)) ++ [SB D' E', CB c])
def jMo : Ct := fun d l H Q => ∃ (D E D' E' : List (List Nd)) (o : List Tx) (ds : List Dc) (tl : List Tx), l = [.agg [.qx 16 D', .qx 2 E'], .f 24 [] [.tp 1 0 0], .f 25 [] [.tp 1 0 0]] ∧ H = HR D E o ∧ SOK ds tl D' E' ∧ o.length ≤ 1000 ∧ uC ds + 8 ≤ d ∧ Q (.tup []) (HR D E (o ++ lW ds tl))
def jOe : Ct := fun d l H Q => ∃ (D E D' E' : List (List Nd)) (o : List Tx) (ds : List Dc) (tl : List Tx), l = [.agg [.qx 16 D', .qx 2 E'], .f 28 [] [.tp 1 0 0], .f 29 [] []] ∧ H = HR D E o ∧ SOK ds tl D' E' ∧ o.length ≤ 1000 ∧ uC ds + 8 ≤ d ∧ Q (.tup []) (HR D E (o ++ jBk ds tl))
def jMs : Ct := fun d l H Q => ∃ (D E : List (List Nd)) (ds : List Dc) (tl : List Tx), l = [.agg [.qx 16 D, .qx 2 E]] ∧ H = [] ∧ SOK ds tl D E ∧ uC ds + 10 ≤ d ∧ Q (.qs (lW ds tl)) []
def eK : Ct := fun d l H Q => ∃ (D E : List (List Nd)) (ds : List Dc) (tl : List Tx), l = [.agg [.qx 16 D, .qx 2 E]] ∧ H = [] ∧ SOK ds tl D E ∧ uC ds + 10 ≤ d ∧ Q (.qs (jBk ds tl)) []
def eS : Ct := fun d l H Q => ∃ (t : Tr) (row : List Nd), l = [.agg (row.map ofN)] ∧ H = [] ∧ isT t row ∧ okT t ∧ wtT t + 7 ≤ d ∧ Q (.b (ntd t)) []
def sH : Ct := fun d l H Q => ∃ (t : Tr) (row : List Nd), l = [.agg (row.map ofN)] ∧ H = [] ∧ isT t row ∧ okT t ∧ wtT t + 7 ≤ d ∧ Q (.b (inn t)) []
def sE : Ct := fun d l H Q => ∃ (D E : List (List Nd)) (ds : List Dc) (tl : List Tx), l = [.agg [.qx 16 D, .qx 2 E]] ∧ H = [] ∧ SOK ds tl D E ∧ uC ds + 10 ≤ d ∧ Q (.b (dL ds)) []
def jDd : Ct := fun d l H Q => ∃ (a : List Tx), l = [.qs a, .qs a] ∧ H = [] ∧ a.length ≤ 1000000000000 ∧ 1 ≤ d ∧ Q (.b true) []
def jQp : Ct := fun d l H Q => l = [] ∧ H = [] ∧ 1 ≤ d ∧ Q (.b true) []
def qAe : Ct := fun d l H Q => ∃ (n v m : Nat), l = [.s n v, .fis m] ∧ H = [] ∧ 100000000001 ≤ d ∧ Q (.b true) []
def jRn (Γ : qC) : Prop := ∀ (d n v : Nat) (Q : Q2), n ≤ 30000 → 401300 ≤ d → (∀ (r k r2 k2 : Nat) (p c : Int), r ≤ 60000000000 → k ≤ 30000 → k2 ≤ 30000 → Q (.tup [.agg [.q 3 r k, .q 0 r2 k2], .i .i64 p, .i .i64 c]) []) → Γ d 5 [.s n v] [] Q
def jYd (Γ : qC) : Prop := ∀ (d m : Nat) (Q : Q2), m ≤ 100 → 460 ≤ d → (∀ n v : Nat, n ≤ 30000 → Q (.s n v) []) → Γ d 13 [.fis m] [] Q
section
theorem jAv {l : List SV} {H : Hp} {Q : Q2} {d : Nat} (h : fD d l H Q) : 1 ≤ d := by
 obtain ⟨_, _, _, _, _, _, _, h0, h1, h2, h3, h4, h5, h6, h7, h8⟩ := h
 omega
theorem jPi {l : List SV} {H : Hp} {Q : Q2} {d : Nat} (h : jHq d l H Q) : 1 ≤ d := by
 obtain ⟨_, _, _, _, _, _, _, h0, h1, h2, h3, h4, h5, h6, h7⟩ := h
 omega
theorem jJq {l : List SV} {H : Hp} {Q : Q2} {d : Nat} (h : oU d l H Q) : 1 ≤ d := by
 obtain ⟨_, _, _, _, h0, h1, h2, h3, h4⟩ := h
 omega
theorem jDg {l : List SV} {H : Hp} {Q : Q2} {d : Nat} (h : rM d l H Q) : 1 ≤ d := by
 obtain ⟨_, _, _, _, h0, h1, h2, h3, h4⟩ := h
 omega
theorem jDs {l : List SV} {H : Hp} {Q : Q2} {d : Nat} (h : dO d l H Q) : 1 ≤ d := by
 obtain ⟨_, _, h0, h1, h2, h3, h4, h5⟩ := h
 omega
theorem jFf {l : List SV} {H : Hp} {Q : Q2} {d : Nat} (h : bT d l H Q) : 1 ≤ d := by
 obtain ⟨_, _, h0, h1, h2, h3, h4, h5⟩ := h
 omega
theorem jAw {l : List SV} {H : Hp} {Q : Q2} {d : Nat} (h : dP d l H Q) : 1 ≤ d := by
 obtain ⟨_, _, _, _, h0, h1, h2, h3, h4⟩ := h
 omega
theorem jAj {c : Option Nat} {l : List SV} {H : Hp} {Q : Q2} {d : Nat} (h : aY c d l H Q) : 1 ≤ d := by
 obtain ⟨_, _, _, _, h0, h1, h2, h3, h4, h5⟩ := h
 omega
theorem jHb {l : List SV} {H : Hp} {Q : Q2} {d : Nat} (h : jKb d l H Q) : 1 ≤ d := by
 obtain ⟨_, _, h0, h1, h2, h3⟩ := h
 omega
theorem jSh {l : List SV} {H : Hp} {Q : Q2} {d : Nat} (h : jVm d l H Q) : 1 ≤ d := by
 obtain ⟨_, _, _, _, h0, h1, h2, h3, h4⟩ := h
 omega
theorem jJg {l : List SV} {H : Hp} {Q : Q2} {d : Nat} (h : lJ d l H Q) : 1 ≤ d := by
 obtain ⟨_, _, _, _, _, h0, h1, h2, h3, h4, h5, h6⟩ := h
 omega
theorem jJr {l : List SV} {H : Hp} {Q : Q2} {d : Nat} (h : lI d l H Q) : 1 ≤ d := by
 obtain ⟨_, _, _, _, _, h0, h1, h2, h3, h4, h5, h6⟩ := h
 omega
theorem jJw {l : List SV} {H : Hp} {Q : Q2} {d : Nat} (h : oH d l H Q) : 1 ≤ d := by
 obtain ⟨_, _, _, _, h0, h1, h2, h3, h4, h5, h6⟩ := h
 omega
theorem mQ {c : SV} {l : List SV} {H : Hp} {Q : Q2} {d : Nat} (h : vL c d l H Q) : 1 ≤ d := by
 obtain ⟨_, _, _, _, _, _, _, h0, h1, h2, h3, h4, h5, h6, h7⟩ := h
 omega
theorem jOr {l : List SV} {H : Hp} {Q : Q2} {d : Nat} (h : jMo d l H Q) : 1 ≤ d := by
 obtain ⟨_, _, _, _, _, _, _, h0, h1, h2, h3, h4, h5⟩ := h
 omega
theorem jPp {l : List SV} {H : Hp} {Q : Q2} {d : Nat} (h : jOe d l H Q) : 1 ≤ d := by
 obtain ⟨_, _, _, _, _, _, _, h0, h1, h2, h3, h4, h5⟩ := h
 omega
theorem jOp {l : List SV} {H : Hp} {Q : Q2} {d : Nat} (h : jMs d l H Q) : 1 ≤ d := by
 obtain ⟨_, _, _, _, h0, h1, h2, h3, h4⟩ := h
 omega
theorem jIt {l : List SV} {H : Hp} {Q : Q2} {d : Nat} (h : eK d l H Q) : 1 ≤ d := by
 obtain ⟨_, _, _, _, h0, h1, h2, h3, h4⟩ := h
 omega
theorem jFw {l : List SV} {H : Hp} {Q : Q2} {d : Nat} (h : eS d l H Q) : 1 ≤ d := by
 obtain ⟨_, _, h0, h1, h2, h3, h4, h5⟩ := h
 omega
theorem jGv {l : List SV} {H : Hp} {Q : Q2} {d : Nat} (h : sH d l H Q) : 1 ≤ d := by
 obtain ⟨_, _, h0, h1, h2, h3, h4, h5⟩ := h
 omega
theorem jDi {l : List SV} {H : Hp} {Q : Q2} {d : Nat} (h : sE d l H Q) : 1 ≤ d := by
 obtain ⟨_, _, _, _, h0, h1, h2, h3, h4⟩ := h
 omega
theorem jJn {l : List SV} {H : Hp} {Q : Q2} {d : Nat} (h : jDd d l H Q) : 1 ≤ d := by
 obtain ⟨_, h0, h1, h2, h3, h4⟩ := h
 omega
theorem jUc {l : List SV} {H : Hp} {Q : Q2} {d : Nat} (h : qAe d l H Q) : 1 ≤ d := by
 obtain ⟨_, _, _, h0, h1, h2, h3⟩ := h
 omega
end
end
end Go.Proofs.YthfmepmchaofjaaGreat.Ev.Lf
end
