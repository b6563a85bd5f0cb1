/-
Walks over trees; the law.
-/
import Derived.Test.YthfmepmchaofjaaGreatLfB
set_option linter.all false
namespace Go.Proofs.YthfmepmchaofjaaGreat.Ev.Lf
noncomputable section
open Go Ev Rf
set_option maxRecDepth 2000
set_option maxHeartbeats 4000000
section
variable {G : Nat → List SV → SV → Prop} {Γ : qC}
theorem p29 (d : Nat) (l : List SV) (H : Hp) (Q : Q2) (h : jKb (d + 1) l H Q) : wF (PT.C G) Γ LL d 29 g29 l H Q := by
 obtain ⟨n, v, rfl, rfl, hd, hQ⟩ := h
 exact hQ
theorem p75 (d : Nat) (l : List SV) (H : Hp) (Q : Q2) (h : jKb (d + 1) l H Q) : wF (PT.C G) Γ LL d 75 g75 l H Q := by
 obtain ⟨n, v, rfl, rfl, hd, hQ⟩ := h
 exact hQ
theorem p74 (d : Nat) (l : List SV) (H : Hp) (Q : Q2) (h : jVm (d + 1) l H Q) : wF (PT.C G) Γ LL d 74 g74 l H Q := by
 obtain ⟨cs, b, n, v, ⟨k, n1, n2, n3, m4, v4, m5, v5, m6, v6, kr, fr, b0, rn, rv, rfl⟩, rfl, rfl, hd, hQ⟩ := h
 exact hQ
theorem p24 (d : Nat) (l : List SV) (H : Hp) (Q : Q2) (h : aY (some 35) (d + 1) l H Q) : wF (PT.C G) Γ LL d 24 g24 l H Q := by
 obtain ⟨D, E, o, x, rfl, rfl, hx, hn, hd, hQ⟩ := h
 refine Or.inl ?_
 refine And.intro (by omega) ?_
 intro _ _
 refine Or.inl ?_
 refine Or.inl ?_
 refine zW ?_
 refine And.intro ⟨?_, ?_⟩ ?_
 ·show (o.length + 1) * 16 ≤ 100000000000000; omega
 ·show (o.length + 1) ≤ 100000000000000; omega
 have hQ' : Q (.tup []) [SB D E, ⟨32, 0, .l [.ts 2 (o.length + 1) (o.length + 1) 1]⟩, ⟨9, o.length + 1, .xs (o ++ [jC 35 x])⟩] := by
  have := hQ
  simp only [HR, List.length_append, List.length_cons, List.length_nil, Nat.zero_add] at this
  exact this
 exact hQ'
theorem p28 (d : Nat) (l : List SV) (H : Hp) (Q : Q2) (h : aY (some 35) (d + 1) l H Q) : wF (PT.C G) Γ LL d 28 g28 l H Q := by
 obtain ⟨D, E, o, x, rfl, rfl, hx, hn, hd, hQ⟩ := h
 refine Or.inl ?_
 refine And.intro (by omega) ?_
 intro _ _
 refine Or.inl ?_
 refine Or.inl ?_
 refine zW ?_
 refine And.intro ⟨?_, ?_⟩ ?_
 ·show (o.length + 1) * 16 ≤ 100000000000000; omega
 ·show (o.length + 1) ≤ 100000000000000; omega
 have hQ' : Q (.tup []) [SB D E, ⟨32, 0, .l [.ts 2 (o.length + 1) (o.length + 1) 1]⟩, ⟨9, o.length + 1, .xs (o ++ [jC 35 x])⟩] := by
  have := hQ
  simp only [HR, List.length_append, List.length_cons, List.length_nil, Nat.zero_add] at this
  exact this
 exact hQ'
theorem p25 (d : Nat) (l : List SV) (H : Hp) (Q : Q2) (h : aY none (d + 1) l H Q) : wF (PT.C G) Γ LL d 25 g25 l H Q := by
 obtain ⟨D, E, o, x, rfl, rfl, hx, hn, hd, hQ⟩ := h
 refine Or.inl ?_
 refine Or.inl ?_
 refine Or.inl ?_
 refine zW ?_
 refine And.intro ⟨?_, ?_⟩ ?_
 ·show (o.length + 1) * 16 ≤ 100000000000000; omega
 ·show (o.length + 1) ≤ 100000000000000; omega
 have hQ' : Q (.tup []) [SB D E, ⟨32, 0, .l [.ts 2 (o.length + 1) (o.length + 1) 1]⟩, ⟨9, o.length + 1, .xs (o ++ [x])⟩] := by
  have := hQ
  simp only [HR, List.length_append, List.length_cons, List.length_nil, Nat.zero_add] at this
  exact this
 exact hQ'
end
section
variable {G : Nat → List SV → SV → Prop} {Γ : qC}
theorem p50R (hc : ∀ d l H Q, aY (some 35) d l H Q → Γ d 24 l H Q) (d : Nat) (l : List SV) (H : Hp) (Q : Q2) (h : vL (.f 24 [] [.tp 1 0 0]) (d + 1) l H Q) : wF (PT.C G) Γ LL d 50 g50 l H Q := by
 obtain ⟨D, E, D', E', o, ps, rows, rfl, rfl, hC, hX, hB, hn, hd, hQ⟩ := h
 have hlen := yK hC
 have e1 : LL = 2000000000000 := rfl
 have e2 : NB = 1000000 := rfl
 refine Or.inl ?_
 refine Or.inl ?_
 refine jN 0 ⟨[1, 5, 6], [], Nat, fun i => [(7, .i .i64 (i : Int))], fun i => HR D E (o ++ (ps.take i).map (jC 35)) ++ [SB D' E', CB (.f 24 [] [.tp 1 0 0])], fun i => i ≤ ps.length, fun i => ps.length - i, ⟨0, ⟨⟨_, rfl, rfl⟩, ⟨_, rfl, rfl⟩, ⟨_, rfl, rfl⟩, ⟨_, rfl, rfl⟩, trivial⟩, ?_, Nat.zero_le _, ?_⟩, ?_⟩
 ·refine congrArg (fun o' => HR D E o' ++ [SB D' E', CB (.f 24 [] [.tp 1 0 0])]) (?_ : o = o ++ (ps.take 0).map (jC 35))
  simp
 ·show ps.length - 0 < LL
  omega
 intro i hi
 refine And.intro (fun hlt => ?_) (fun hge => ?_)
 ·refine And.intro ⟨by omega, by omega⟩ ?_
  intro p hp
  obtain ⟨q, kk, bb, hq, rfl⟩ := qY hC (k := i) (by simpa using hp)
  have hqx := hX q (List.mem_of_getElem? hq)
  unfold okX at hqx
  have hst : o ++ (ps.take (i + 1)).map (jC 35) = (o ++ (ps.take i).map (jC 35)) ++ [jC 35 q] := by rw [jI hq]; simp [jC]
  refine Or.inl ?_
  refine hc _ _ _ _ ⟨D, E, _, q, rfl, rfl, ?_, ?_, by omega, ?_⟩
  ·omega
  ·simp only [List.length_append, List.length_map, List.length_take]; omega
  refine And.intro ⟨by omega, by omega⟩ ?_
  refine Or.inl ?_
  refine ⟨i + 1, ⟨⟨_, rfl, rfl⟩, ⟨_, rfl, rfl⟩, ⟨_, rfl, rfl⟩, ⟨_, rfl, rfl⟩, trivial⟩, ?_, ?_, ?_⟩
  ·show xH (HR D E (o ++ (ps.take (i + 1)).map (jC 35)) ++ [SB D' E', CB (.f 24 [] [.tp 1 0 0])]) _
   rw [hst]
   exact ⟨rfl, rfl, rfl, rfl, rfl, trivial⟩
  ·show i + 1 ≤ ps.length; omega
  ·show ps.length - (i + 1) < ps.length - i; omega
 ·obtain rfl : i = ps.length := by omega
  have hQ' : Q (.tup []) (HR D E (o ++ (ps.take ps.length).map (jC 35)) ++ [SB D' E', CB (.f 24 [] [.tp 1 0 0])]) := by rw [List.take_length]; exact hQ
  exact hQ'
theorem p50N (hc : ∀ d l H Q, aY (some 35) d l H Q → Γ d 28 l H Q) (d : Nat) (l : List SV) (H : Hp) (Q : Q2) (h : vL (.f 28 [] [.tp 1 0 0]) (d + 1) l H Q) : wF (PT.C G) Γ LL d 50 g50 l H Q := by
 obtain ⟨D, E, D', E', o, ps, rows, rfl, rfl, hC, hX, hB, hn, hd, hQ⟩ := h
 have hlen := yK hC
 have e1 : LL = 2000000000000 := rfl
 have e2 : NB = 1000000 := rfl
 refine Or.inl ?_
 refine Or.inl ?_
 refine jN 0 ⟨[1, 5, 6], [], Nat, fun i => [(7, .i .i64 (i : Int))], fun i => HR D E (o ++ (ps.take i).map (jC 35)) ++ [SB D' E', CB (.f 28 [] [.tp 1 0 0])], fun i => i ≤ ps.length, fun i => ps.length - i, ⟨0, ⟨⟨_, rfl, rfl⟩, ⟨_, rfl, rfl⟩, ⟨_, rfl, rfl⟩, ⟨_, rfl, rfl⟩, trivial⟩, ?_, Nat.zero_le _, ?_⟩, ?_⟩
 ·refine congrArg (fun o' => HR D E o' ++ [SB D' E', CB (.f 28 [] [.tp 1 0 0])]) (?_ : o = o ++ (ps.take 0).map (jC 35))
  simp
 ·show ps.length - 0 < LL
  omega
 intro i hi
 refine And.intro (fun hlt => ?_) (fun hge => ?_)
 ·refine And.intro ⟨by omega, by omega⟩ ?_
  intro p hp
  obtain ⟨q, kk, bb, hq, rfl⟩ := qY hC (k := i) (by simpa using hp)
  have hqx := hX q (List.mem_of_getElem? hq)
  unfold okX at hqx
  have hst : o ++ (ps.take (i + 1)).map (jC 35) = (o ++ (ps.take i).map (jC 35)) ++ [jC 35 q] := by rw [jI hq]; simp [jC]
  refine Or.inl ?_
  refine hc _ _ _ _ ⟨D, E, _, q, rfl, rfl, ?_, ?_, by omega, ?_⟩
  ·omega
  ·simp only [List.length_append, List.length_map, List.length_take]; omega
  refine And.intro ⟨by omega, by omega⟩ ?_
  refine Or.inl ?_
  refine ⟨i + 1, ⟨⟨_, rfl, rfl⟩, ⟨_, rfl, rfl⟩, ⟨_, rfl, rfl⟩, ⟨_, rfl, rfl⟩, trivial⟩, ?_, ?_, ?_⟩
  ·show xH (HR D E (o ++ (ps.take (i + 1)).map (jC 35)) ++ [SB D' E', CB (.f 28 [] [.tp 1 0 0])]) _
   rw [hst]
   exact ⟨rfl, rfl, rfl, rfl, rfl, trivial⟩
  ·show i + 1 ≤ ps.length; omega
  ·show ps.length - (i + 1) < ps.length - i; omega
 ·obtain rfl : i = ps.length := by omega
  have hQ' : Q (.tup []) (HR D E (o ++ (ps.take ps.length).map (jC 35)) ++ [SB D' E', CB (.f 28 [] [.tp 1 0 0])]) := by rw [List.take_length]; exact hQ
  exact hQ'
end
section
variable {G : Nat → List SV → SV → Prop} {Γ : qC}
theorem p23R (hc50 : ∀ d l H Q, vL (.f 24 [] [.tp 1 0 0]) d l H Q → Γ d 50 l H Q) (hc51 : ∀ d l H Q, lJ d l H Q → Γ d 51 l H Q) (d : Nat) (l : List SV) (H : Hp) (Q : Q2) (h : jMo (d + 1) l H Q) : wF (PT.C G) Γ LL d 23 g23 l H Q := by
 obtain ⟨D, E, D', E', o, ds, tl, rfl, rfl, hS, hn, hd, hQ⟩ := h
 obtain ⟨hD, hE, od, ot, bd, bt, hw⟩ := hS
 have e1 : LL = 2000000000000 := rfl
 have e2 : NB = 1000000 := rfl
 have hlen := fR hD
 refine Or.inl ?_
 refine Or.inl ?_
 refine jN 0 ⟨[2, 3, 4, 6, 11, 12], [], Nat, fun i => [(13, .i .i64 (i : Int))], fun i => HR D E (o ++ xE (ds.take i)) ++ [SB D' E', CB (.f 24 [] [.tp 1 0 0])], fun i => i ≤ ds.length, fun i => ds.length - i, ⟨0, ⟨⟨_, rfl, rfl⟩, ⟨_, rfl, rfl⟩, ⟨_, rfl, rfl⟩, ⟨_, rfl, rfl⟩, ⟨_, rfl, rfl⟩, ⟨_, rfl, rfl⟩, ⟨_, rfl, rfl⟩, trivial⟩, ?_, Nat.zero_le _, ?_⟩, ?_⟩
 ·refine congrArg (fun o' => HR D E o' ++ [SB D' E', CB (.f 24 [] [.tp 1 0 0])]) (?_ : o = o ++ xE (ds.take 0))
  simp [xE]
 ·show ds.length - 0 < LL
  omega
 intro i hi
 have hrl := kA (ds.take i)
 refine And.intro (fun hlt => ?_) (fun hge => ?_)
 ·refine And.intro ⟨by omega, by omega⟩ ?_
  intro p hp
  obtain ⟨q, hq, hr⟩ := fU hD (k := i) (by simpa using hp)
  have hw1 := bW hq
  have hoq := fW od hq
  have hst : o ++ xE (ds.take (i + 1)) = ((o ++ xE (ds.take i)) ++ q.hd.map (jC 35) ++ qW q.rt) ++ q.ft.map (jC 35) := by rw [jI hq, sS]; simp [xE, jHd]
  have hrt := pT q.rt
  obtain ⟨hd', rt, ft⟩ := q
  dsimp only at hw1 hrt hst
  obtain ⟨hr0, w, dr, b, rtr, fr, rfl, h1, h2, h3⟩ := hr
  obtain ⟨o1, o2, o3, o4, o5⟩ := hoq
  have h2' := h2
  obtain ⟨k', x', ks', ld', ft', tr'⟩ := rt
  simp only [isT] at h2
  obtain ⟨n1', n2', n3', m4', v4', m5', v5', kr', lr', fr', b', rn', rv', rfl, _⟩ := h2
  refine Or.inl ?_
  refine Or.inl ?_
  refine hc50 _ _ _ _ ⟨D, E, D', E', _, hd', hr0, rfl, rfl, h1, o1, o4, ?_, by omega, ?_⟩
  ·simp only [List.length_append]; omega
  refine Or.inl ?_
  refine Or.inl ?_
  refine hc51 _ _ _ _ ⟨D, E, _, .mk k' x' ks' ld' ft' tr', _, rfl, rfl, h2', o2, ?_, by omega, ?_⟩
  ·simp only [List.length_append, List.length_map]; omega
  refine Or.inl ?_
  refine hc50 _ _ _ _ ⟨D, E, D', E', _, ft, fr, rfl, rfl, h3, o3, o5, ?_, by omega, ?_⟩
  ·simp only [List.length_append, List.length_map]; omega
  refine And.intro ⟨by omega, by omega⟩ ?_
  refine Or.inl ?_
  refine ⟨i + 1, ⟨⟨_, rfl, rfl⟩, ⟨_, rfl, rfl⟩, ⟨_, rfl, rfl⟩, ⟨_, rfl, rfl⟩, ⟨_, rfl, rfl⟩, ⟨_, rfl, rfl⟩, ⟨_, rfl, rfl⟩, trivial⟩, ?_, ?_, ?_⟩
  ·show xH (HR D E (o ++ xE (ds.take (i + 1))) ++ [SB D' E', CB (.f 24 [] [.tp 1 0 0])]) _
   rw [hst]
   exact ⟨rfl, rfl, rfl, rfl, rfl, trivial⟩
  ·show i + 1 ≤ ds.length; omega
  ·show ds.length - (i + 1) < ds.length - i; omega
 ·obtain rfl : i = ds.length := by omega
  refine Or.inl ?_
  refine hc50 _ _ _ _ ⟨D, E, D', E', _, tl, E', rfl, rfl, hE, ot, bt, ?_, by omega, ?_⟩
  ·have hw2 : uC (ds.take ds.length) = uC ds := by rw [List.take_length]
   simp only [List.length_append]; omega
  have hQ' : Q (.tup []) (HR D E ((o ++ xE (ds.take ds.length)) ++ tl.map (jC 35))) := by
   rw [List.take_length, List.append_assoc]; exact hQ
  exact hQ'
theorem p7 (hc23 : ∀ d l H Q, jMo d l H Q → Γ d 23 l H Q) (d : Nat) (l : List SV) (H : Hp) (Q : Q2) (h : jMs (d + 1) l H Q) : wF (PT.C G) Γ LL d 7 g7 l H Q := by
 obtain ⟨D, E, ds, tl, rfl, rfl, hS, hd, hQ⟩ := h
 refine Or.inl ?_
 refine Or.inr ?_
 refine ⟨9, ?_⟩
 refine Or.inl ?_
 refine hc23 _ _ _ _ ⟨D, E, D, E, [], ds, tl, rfl, rfl, hS, by simp, by omega, ?_⟩
 refine Or.inl ?_
 refine zW ?_
 exact hQ
end
section
variable {G : Nat → List SV → SV → Prop} {Γ : qC}
theorem p23N (hc50 : ∀ d l H Q, vL (.f 28 [] [.tp 1 0 0]) d l H Q → Γ d 50 l H Q) (hc51 : ∀ d l H Q, lI d l H Q → Γ d 51 l H Q) (d : Nat) (l : List SV) (H : Hp) (Q : Q2) (h : jOe (d + 1) l H Q) : wF (PT.C G) Γ LL d 23 g23 l H Q := by
 obtain ⟨D, E, D', E', o, ds, tl, rfl, rfl, hS, hn, hd, hQ⟩ := h
 obtain ⟨hD, hE, od, ot, bd, bt, hw⟩ := hS
 have e1 : LL = 2000000000000 := rfl
 have e2 : NB = 1000000 := rfl
 have hlen := fR hD
 refine Or.inl ?_
 refine Or.inl ?_
 refine jN 0 ⟨[2, 3, 4, 6, 11, 12], [], Nat, fun i => [(13, .i .i64 (i : Int))], fun i => HR D E (o ++ yC (ds.take i)) ++ [SB D' E', CB (.f 28 [] [.tp 1 0 0])], fun i => i ≤ ds.length, fun i => ds.length - i, ⟨0, ⟨⟨_, rfl, rfl⟩, ⟨_, rfl, rfl⟩, ⟨_, rfl, rfl⟩, ⟨_, rfl, rfl⟩, ⟨_, rfl, rfl⟩, ⟨_, rfl, rfl⟩, ⟨_, rfl, rfl⟩, trivial⟩, ?_, Nat.zero_le _, ?_⟩, ?_⟩
 ·refine congrArg (fun o' => HR D E o' ++ [SB D' E', CB (.f 28 [] [.tp 1 0 0])]) (?_ : o = o ++ yC (ds.take 0))
  simp [yC]
 ·show ds.length - 0 < LL
  omega
 intro i hi
 have hrl := nO (ds.take i)
 refine And.intro (fun hlt => ?_) (fun hge => ?_)
 ·refine And.intro ⟨by omega, by omega⟩ ?_
  intro p hp
  obtain ⟨q, hq, hr⟩ := fU hD (k := i) (by simpa using hp)
  have hw1 := bW hq
  have hoq := fW od hq
  have hst : o ++ yC (ds.take (i + 1)) = ((o ++ yC (ds.take i)) ++ q.hd.map (jC 35) ++ qH q.rt) ++ q.ft.map (jC 35) := by rw [jI hq, oI]; simp [yC, jMz]
  have hrt := tL q.rt
  obtain ⟨hd', rt, ft⟩ := q
  dsimp only at hw1 hrt hst
  obtain ⟨hr0, w, dr, b, rtr, fr, rfl, h1, h2, h3⟩ := hr
  obtain ⟨o1, o2, o3, o4, o5⟩ := hoq
  have h2' := h2
  obtain ⟨k', x', ks', ld', ft', tr'⟩ := rt
  simp only [isT] at h2
  obtain ⟨n1', n2', n3', m4', v4', m5', v5', kr', lr', fr', b', rn', rv', rfl, _⟩ := h2
  refine Or.inl ?_
  refine Or.inl ?_
  refine hc50 _ _ _ _ ⟨D, E, D', E', _, hd', hr0, rfl, rfl, h1, o1, o4, ?_, by omega, ?_⟩
  ·simp only [List.length_append]; omega
  refine Or.inl ?_
  refine Or.inl ?_
  refine hc51 _ _ _ _ ⟨D, E, _, .mk k' x' ks' ld' ft' tr', _, rfl, rfl, h2', o2, ?_, by omega, ?_⟩
  ·simp only [List.length_append, List.length_map]; omega
  refine Or.inl ?_
  refine hc50 _ _ _ _ ⟨D, E, D', E', _, ft, fr, rfl, rfl, h3, o3, o5, ?_, by omega, ?_⟩
  ·simp only [List.length_append, List.length_map]; omega
  refine And.intro ⟨by omega, by omega⟩ ?_
  refine Or.inl ?_
  refine ⟨i + 1, ⟨⟨_, rfl, rfl⟩, ⟨_, rfl, rfl⟩, ⟨_, rfl, rfl⟩, ⟨_, rfl, rfl⟩, ⟨_, rfl, rfl⟩, ⟨_, rfl, rfl⟩, ⟨_, rfl, rfl⟩, trivial⟩, ?_, ?_, ?_⟩
  ·show xH (HR D E (o ++ yC (ds.take (i + 1))) ++ [SB D' E', CB (.f 28 [] [.tp 1 0 0])]) _
   rw [hst]
   exact ⟨rfl, rfl, rfl, rfl, rfl, trivial⟩
  ·show i + 1 ≤ ds.length; omega
  ·show ds.length - (i + 1) < ds.length - i; omega
 ·obtain rfl : i = ds.length := by omega
  refine Or.inl ?_
  refine hc50 _ _ _ _ ⟨D, E, D', E', _, tl, E', rfl, rfl, hE, ot, bt, ?_, by omega, ?_⟩
  ·have hw2 : uC (ds.take ds.length) = uC ds := by rw [List.take_length]
   simp only [List.length_append]; omega
  have hQ' : Q (.tup []) (HR D E ((o ++ yC (ds.take ds.length)) ++ tl.map (jC 35))) := by
   rw [List.take_length, List.append_assoc]; exact hQ
  exact hQ'
theorem p9 (hc23 : ∀ d l H Q, jOe d l H Q → Γ d 23 l H Q) (d : Nat) (l : List SV) (H : Hp) (Q : Q2) (h : eK (d + 1) l H Q) : wF (PT.C G) Γ LL d 9 g9 l H Q := by
 obtain ⟨D, E, ds, tl, rfl, rfl, hS, hd, hQ⟩ := h
 refine Or.inl ?_
 refine Or.inr ?_
 refine ⟨9, ?_⟩
 refine Or.inl ?_
 refine hc23 _ _ _ _ ⟨D, E, D, E, [], ds, tl, rfl, rfl, hS, by simp, by omega, ?_⟩
 refine Or.inl ?_
 refine zW ?_
 exact hQ
end
section
variable {G : Nat → List SV → SV → Prop} {Γ : qC}
theorem p52 (hc51 : ∀ d l H Q, oH d l H Q → Γ d 51 l H Q) (d : Nat) (l : List SV) (H : Hp) (Q : Q2) (h : eS (d + 1) l H Q) : wF (PT.C G) Γ LL d 52 g52 l H Q := by
 obtain ⟨t, row, rfl, rfl, hT, hO, hd, hQ⟩ := h
 obtain ⟨k, x, ks, ld, ft, tr⟩ := t
 simp only [isT] at hT
 obtain ⟨n1, n2, n3, m4, v4, m5, v5, kr, lr, fr, b, rn, rv, rfl, hK, hL, hF, htr⟩ := hT
 rw [← jUx] at hQ
 simp only [wtT] at hd
 have hO' : okT (.mk k x ks [] ft tr) := by
  simp only [okT] at hO ⊢
  obtain ⟨a1, a2, a3, a4, a5, a6, a7, a8⟩ := hO
  exact ⟨a1, a2, fun p hp => by simp at hp, a4, a5, a6, Nat.zero_le _, a8⟩
 refine Or.inl ?_
 refine Or.inl ?_
 refine Or.inl ?_
 refine hc51 _ _ _ _ ⟨_, false, .mk k x ks [] ft tr, _, ⟨k, n1, n2, n3, m4, v4, m5, v5, x.1, x.2, kr, fr, b, rn, rv, rfl⟩, rfl, rfl, ⟨n1, n2, n3, m4, v4, m5, v5, kr, .sl0, fr, b, rn, rv, rfl, hK, .inr ⟨rfl, rfl⟩, hF, htr⟩, hO', ?_, ?_⟩
 ·simp only [wtT, List.length_nil]; omega
 refine Or.inl ?_
 rw [Bool.false_or]
 exact hQ
end
section
variable {G : Nat → List SV → SV → Prop} {Γ : qC}
theorem p30 (hc52 : ∀ d l H Q, eS d l H Q → Γ d 52 l H Q) (hc30 : ∀ d l H Q, sH d l H Q → Γ d 30 l H Q) (d : Nat) (l : List SV) (H : Hp) (Q : Q2) (h : sH (d + 1) l H Q) : wF (PT.C G) Γ LL d 30 g30 l H Q := by
 obtain ⟨t, row, rfl, rfl, hT, hO, hd, hQ⟩ := h
 have hT0 := hT
 obtain ⟨k, x, ks, ld, ft, tr⟩ := t
 simp only [isT] at hT
 obtain ⟨n1, n2, n3, m4, v4, m5, v5, kr, lr, fr, b, rn, rv, rfl, hK, hL, hF, htr⟩ := hT
 simp only [okT] at hO
 obtain ⟨ox, oks, old, oft, otr, bk, bl, bf⟩ := hO
 simp only [wtT] at hd
 have e1 : LL = 2000000000000 := rfl
 have e2 : NB = 1000000 := rfl
 have hlen := wA hK
 have hfl := yK hF
 have hN : inn (.mk k x ks ld ft tr) = wP k 0 ks := rfl
 rw [hN] at hQ
 refine Or.inl ?_
 refine Or.inl ?_
 refine jN 0 ⟨[1, 6, 7], [], Nat, fun i => [(8, .i .i64 (i : Int))], fun i => [⟨51, 0, .l [.i .i64 k, .i .i64 n1, .i .i64 n2, .i .i64 n3, .s m4 v4, .s m5 v5, .s x.1 x.2, .qx 12 kr, .qx 2 lr, .qx 2 fr, .b b, .s rn rv]⟩], fun i => i ≤ ks.length ∧ wP k 0 (ks.take i) = false, fun i => ks.length - i, ⟨0, ⟨⟨_, rfl, rfl⟩, ⟨_, rfl, rfl⟩, ⟨_, rfl, rfl⟩, ⟨_, rfl, rfl⟩, trivial⟩, rfl, ⟨Nat.zero_le _, rfl⟩, ?_⟩, ?_⟩
 ·show ks.length - 0 < LL
  omega
 intro i hi
 obtain ⟨hi, hI⟩ := hi
 refine And.intro (fun hlt => ?_) (fun hge => ?_)
 ·refine Or.inl ?_
  refine And.intro ⟨by omega, by omega⟩ ?_
  intro p hp
  obtain ⟨t', ht', hr⟩ := qK hK (k := i) (by simpa using hp)
  have hr' := hr
  have hw := qL ht'
  have hot := qI oks ht'
  obtain ⟨k', x', ks', ld', ft', tr'⟩ := t'
  simp only [isT] at hr
  obtain ⟨n1', n2', n3', m4', v4', m5', v5', kr', lr', fr', b', rn', rv', rfl, _, hL', _, _⟩ := hr
  refine Or.inl ?_
  refine Or.inl ?_
  refine And.intro (fun hk => ?_) (fun hk => ?_)
  ·refine Or.inl ?_
   refine Or.inl ?_
   refine And.intro ⟨by omega, by omega⟩ ?_
   refine And.intro (fun h2 => ?_) (fun h2 => ?_)
   ·refine Or.inl ?_
    refine Or.inl ?_
    refine hc52 _ _ _ _ ⟨(.mk k' x' ks' ld' ft' tr'), _, rfl, rfl, hr', hot, by omega, ?_⟩
    refine uB ?_
    refine Or.inl ?_
    refine qM (fun hn => ?_) (fun hn => ?_)
    ·rw [hn]
     refine Or.inl ?_
     have hQ' : Q (.b true) [] := by
      have : wP k 0 ks = true := wH ht' (by rw [hn]; simp [hk]; omega)
      rw [← this]; exact hQ
     exact hQ'
    ·rw [hn]
     refine Or.inl ?_
     refine hc30 _ _ _ _ ⟨(.mk k' x' ks' ld' ft' tr'), _, rfl, rfl, hr', hot, by omega, ?_⟩
     refine uB ?_
     refine qM (fun hy => ?_) (fun hy => ?_)
     ·refine Or.inl ?_
      have hQ' : Q (.b true) [] := by
       have : wP k 0 ks = true := wH ht' (by rw [hy]; simp)
       rw [← this]; exact hQ
      exact hQ'
     ·refine And.intro ⟨by omega, by omega⟩ ?_
      refine Or.inl ?_
      refine ⟨i + 1, ⟨⟨_, rfl, rfl⟩, ⟨_, rfl, rfl⟩, ⟨_, rfl, rfl⟩, ⟨_, rfl, rfl⟩, trivial⟩, ⟨rfl, trivial⟩, ⟨?_, ?_⟩, ?_⟩
      ·show i + 1 ≤ ks.length; omega
      ·exact wZ ht' hI (by rw [hy]; rw [hn]; simp)
      ·show ks.length - (i + 1) < ks.length - i; omega
   ·refine Or.inl ?_
    refine Or.inl ?_
    refine Or.inl ?_
    refine hc30 _ _ _ _ ⟨(.mk k' x' ks' ld' ft' tr'), _, rfl, rfl, hr', hot, by omega, ?_⟩
    refine uB ?_
    refine qM (fun hy => ?_) (fun hy => ?_)
    ·refine Or.inl ?_
     have hQ' : Q (.b true) [] := by
      have : wP k 0 ks = true := wH ht' (by rw [hy]; simp)
      rw [← this]; exact hQ
     exact hQ'
    ·refine And.intro ⟨by omega, by omega⟩ ?_
     refine Or.inl ?_
     refine ⟨i + 1, ⟨⟨_, rfl, rfl⟩, ⟨_, rfl, rfl⟩, ⟨_, rfl, rfl⟩, ⟨_, rfl, rfl⟩, trivial⟩, ⟨rfl, trivial⟩, ⟨?_, ?_⟩, ?_⟩
     ·show i + 1 ≤ ks.length; omega
     ·exact wZ ht' hI (by rw [hy]; simp; omega)
     ·show ks.length - (i + 1) < ks.length - i; omega
  ·refine Or.inl ?_
   refine Or.inl ?_
   refine Or.inl ?_
   refine Or.inl ?_
   refine hc30 _ _ _ _ ⟨(.mk k' x' ks' ld' ft' tr'), _, rfl, rfl, hr', hot, by omega, ?_⟩
   refine uB ?_
   refine qM (fun hy => ?_) (fun hy => ?_)
   ·refine Or.inl ?_
    have hQ' : Q (.b true) [] := by
     have : wP k 0 ks = true := wH ht' (by rw [hy]; simp)
     rw [← this]; exact hQ
    exact hQ'
   ·refine And.intro ⟨by omega, by omega⟩ ?_
    refine Or.inl ?_
    refine ⟨i + 1, ⟨⟨_, rfl, rfl⟩, ⟨_, rfl, rfl⟩, ⟨_, rfl, rfl⟩, ⟨_, rfl, rfl⟩, trivial⟩, ⟨rfl, trivial⟩, ⟨?_, ?_⟩, ?_⟩
    ·show i + 1 ≤ ks.length; omega
    ·exact wZ ht' hI (by rw [hy]; simp [hk])
    ·show ks.length - (i + 1) < ks.length - i; omega
 ·obtain rfl : i = ks.length := by omega
  rw [List.take_length] at hI
  refine Or.inl ?_
  rw [hI] at hQ
  exact hQ
end
section
variable {G : Nat → List SV → SV → Prop} {Γ : qC}
theorem p11 (hc30 : ∀ d l H Q, sH d l H Q → Γ d 30 l H Q) (d : Nat) (l : List SV) (H : Hp) (Q : Q2) (h : sE (d + 1) l H Q) : wF (PT.C G) Γ LL d 11 g11 l H Q := by
 obtain ⟨D, E, ds, tl, rfl, rfl, hS, hd, hQ⟩ := h
 obtain ⟨hD, hE, od, ot, bd, bt, hw⟩ := hS
 have e1 : LL = 2000000000000 := rfl
 have e2 : NB = 1000000 := rfl
 have hlen := fR hD
 refine Or.inl ?_
 refine Or.inl ?_
 refine jN 0 ⟨[1, 6, 7], [], Nat, fun i => [(8, .i .i64 (i : Int))], fun i => [SB D E], fun i => i ≤ ds.length ∧ dL (ds.take i) = false, fun i => ds.length - i, ⟨0, ⟨⟨_, rfl, rfl⟩, ⟨_, rfl, rfl⟩, ⟨_, rfl, rfl⟩, ⟨_, rfl, rfl⟩, trivial⟩, rfl, ⟨Nat.zero_le _, rfl⟩, ?_⟩, ?_⟩
 ·show ds.length - 0 < LL
  omega
 intro i hi
 obtain ⟨hi, hI⟩ := hi
 refine And.intro (fun hlt => ?_) (fun hge => ?_)
 ·refine And.intro ⟨by omega, by omega⟩ ?_
  intro p hp
  obtain ⟨q, hq, hr⟩ := fU hD (k := i) (by simpa using hp)
  have hw1 := bW hq
  have hoq := fW od hq
  obtain ⟨hd', rt, ft⟩ := q
  dsimp only at hw1
  obtain ⟨hr0, w, dr, b, rtr, fr, rfl, h1, h2, h3⟩ := hr
  obtain ⟨o1, o2, o3, o4, o5⟩ := hoq
  have h2' := h2
  obtain ⟨k', x', ks', ld', ft', tr'⟩ := rt
  simp only [isT] at h2
  obtain ⟨n1', n2', n3', m4', v4', m5', v5', kr', lr', fr', b', rn', rv', rfl, _⟩ := h2
  refine Or.inl ?_
  refine Or.inl ?_
  refine hc30 _ _ _ _ ⟨.mk k' x' ks' ld' ft' tr', _, rfl, rfl, h2', o2, ?_, ?_⟩
  ·omega
  refine uB ?_
  refine qM (fun hy => ?_) (fun hy => ?_)
  ·refine Or.inl ?_
   have hQ' : Q (.b true) [] := by
    have : dL ds = true := jFm hq hy
    rw [← this]; exact hQ
   exact hQ'
  ·refine And.intro ⟨by omega, by omega⟩ ?_
   refine Or.inl ?_
   refine ⟨i + 1, ⟨⟨_, rfl, rfl⟩, ⟨_, rfl, rfl⟩, ⟨_, rfl, rfl⟩, ⟨_, rfl, rfl⟩, trivial⟩, ⟨rfl, trivial⟩, ⟨?_, ?_⟩, ?_⟩
   ·show i + 1 ≤ ds.length; omega
   ·exact jBw hq hI hy
   ·show ds.length - (i + 1) < ds.length - i; omega
 ·obtain rfl : i = ds.length := by omega
  rw [List.take_length] at hI
  refine Or.inl ?_
  rw [hI] at hQ
  exact hQ
end
section
variable {G : Nat → List SV → SV → Prop} {Γ : qC}
theorem p6 (d : Nat) (l : List SV) (H : Hp) (Q : Q2) (h : jDd (d + 1) l H Q) : wF (PT.C G) Γ LL d 6 g6 l H Q := by
 obtain ⟨a, rfl, rfl, hn, hd, hQ⟩ := h
 have e1 : LL = 2000000000000 := rfl
 refine Or.inl ?_
 refine Or.inl ?_
 refine Or.inl ?_
 refine And.intro (fun h => absurd rfl h) (fun _ => ?_)
 refine Or.inl ?_
 refine jN 0 ⟨[0, 1], [], Nat, fun i => [(5, .i .i64 (i : Int))], fun i => [], fun i => i ≤ a.length, fun i => a.length - i, ⟨0, ⟨⟨_, rfl, rfl⟩, ⟨_, rfl, rfl⟩, ⟨_, rfl, rfl⟩, trivial⟩, rfl, Nat.zero_le _, ?_⟩, ?_⟩
 ·show a.length - 0 < LL
  omega
 intro i hi
 refine Or.inl ?_
 refine Or.inl ?_
 refine And.intro (fun hlt => ?_) (fun hge => ?_)
 ·refine Or.inl ?_
  refine Or.inl ?_
  refine And.intro ⟨by omega, by omega⟩ ?_
  intro p hp
  intro _
  refine Or.inl ?_
  refine Or.inl ?_
  refine And.intro ⟨by omega, by omega⟩ ?_
  intro p2 hp2
  rw [hp] at hp2
  obtain rfl := Option.some.inj hp2
  intro _ _ _
  refine And.intro (fun h => absurd ⟨rfl, rfl⟩ h) (fun _ => ?_)
  refine Or.inl ?_
  refine And.intro ⟨by omega, by omega⟩ ?_
  refine Or.inl ?_
  refine ⟨i + 1, ⟨⟨_, rfl, rfl⟩, ⟨_, rfl, rfl⟩, ⟨_, rfl, rfl⟩, trivial⟩, trivial, ?_, ?_⟩
  ·show i + 1 ≤ a.length; omega
  ·show a.length - (i + 1) < a.length - i; omega
 ·refine Or.inl ?_
  exact hQ
end
section
variable {G : Nat → List SV → SV → Prop} {Γ : qC}
theorem kd : Kd (PT.C G) := ⟨fun r => rfl, fun r => rfl, fun r => rfl, rfl, rfl, rfl⟩
theorem sok {r k r2 k2 : Nat} {D E : List (List Nd)} (hr : r ≤ 60000000000) (hk : k ≤ 30000) (hk2 : k2 ≤ 30000) (hD : D.length = k) (hE : E.length = k2) (nD : ndT (PT.C G) (.q 16 D) (.q 3 r)) (nE : ndT (PT.C G) (.q 2 E) (.q 0 r2)) :
  ∃ ds tl, SOK ds tl D E ∧ uC ds ≤ 60000000000 := by
 obtain ⟨l, e, b1, r1⟩ := bI nD
 cases e
 obtain ⟨l2, e, b2, r2⟩ := bI nE
 cases e
 obtain ⟨ds, d1, d2, d3, d4⟩ := jXu kd r1
 obtain ⟨tl, t1, t2, t3, t4⟩ := jPe kd r2
 have e2 : NB = 1000000 := rfl
 exact ⟨ds, tl, ⟨d1, t1, d4, t4, by omega, by omega, by omega⟩, by omega⟩
theorem p3 (h4 : ∀ d l H Q, jQp d l H Q → Γ d 4 l H Q) (h5 : jRn Γ) (h13 : jYd Γ) (h6 : ∀ d l H Q, jDd d l H Q → Γ d 6 l H Q)
  (h7 : ∀ d l H Q, jMs d l H Q → Γ d 7 l H Q) (h8 : ∀ d l H Q, oU d l H Q → Γ d 8 l H Q) (h9 : ∀ d l H Q, eK d l H Q → Γ d 9 l H Q) (h10 : ∀ d l H Q, rM d l H Q → Γ d 10 l H Q)
  (h11 : ∀ d l H Q, sE d l H Q → Γ d 11 l H Q) (h12 : ∀ d l H Q, dP d l H Q → Γ d 12 l H Q) (d : Nat) (l : List SV) (H : Hp) (Q : Q2) (h : qAe (d + 1) l H Q) : wF (PT.C G) Γ LL d 3 g3 l H Q := by
 obtain ⟨n, v, m, rfl, rfl, hd, hQ⟩ := h
 have e1 : LL = 2000000000000 := rfl
 refine Or.inl ?_
 refine Or.inl ?_
 refine And.intro (fun hn => ?_) (fun hn => ?_)
 ·refine Or.inl ?_
  refine h4 _ _ _ _ ⟨rfl, rfl, by omega, ?_⟩
  intro _
  refine Or.inl ?_
  exact hQ
 ·refine Or.inl ?_
  refine Or.inl ?_
  refine And.intro (fun hm => ?_) (fun hm => ?_)
  ·refine h4 _ _ _ _ ⟨rfl, rfl, by omega, ?_⟩
   intro _
   refine Or.inl ?_
   exact hQ
  ·refine Or.inl ?_
   refine jN 0 ⟨[1], [], Nat × Nat × Nat, fun p => [(5, .i .i64 (p.1 : Int)), (0, .s p.2.1 p.2.2)], fun p => [], fun p => p.1 ≤ 2 ∧ p.2.1 ≤ 30000, fun p => 2 - p.1, ⟨(0, n, v), ⟨⟨_, rfl, rfl⟩, ⟨_, rfl, rfl⟩, ⟨_, rfl, rfl⟩, trivial⟩, rfl, ⟨Nat.zero_le _, ?_⟩, ?_⟩, ?_⟩
   ·show n ≤ 30000; omega
   ·show 2 - 0 < LL; omega
   rintro ⟨i, n, v⟩ ⟨hi, hn⟩
   dsimp only at hi hn
   refine Or.inl ?_
   refine And.intro (fun hlt => ?_) (fun hge => ?_)
   ·refine Or.inl ?_
    refine Or.inr ?_
    refine h5 _ _ _ _ hn (by omega) fun r k r2 k2 pp cc hr hk hk2 => ?_
    intro v' hv
    obtain ⟨l1, rfl, y1, t1, rfl, hy1, y2, t2, rfl, hy2, y3, t3, rfl, hy3, rfl⟩ := hv
    cases hy2
    cases hy3
    obtain ⟨l2, rfl, z1, s1, rfl, ⟨D, rfl, hD, nD⟩, z2, s2, rfl, ⟨E, rfl, hE, nE⟩, rfl⟩ := hy1
    obtain ⟨ds, tl, hS, hw⟩ := sok hr hk hk2 hD hE nD nE
    refine Or.inl ?_
    refine Or.inl ?_
    refine Or.inl ?_
    refine Or.inl ?_
    refine Or.inl ?_
    refine h7 _ _ _ _ ⟨D, E, ds, tl, rfl, rfl, hS, by omega, ?_⟩
    refine Or.inl ?_
    refine h8 _ _ _ _ ⟨D, E, ds, tl, rfl, rfl, hS, by omega, ?_⟩
    refine Or.inl ?_
    refine h6 _ _ _ _ ⟨_, rfl, rfl, ?_, by omega, ?_⟩
    ·have := kA ds
     have := hS.w
     simp only [lW, List.length_append, List.length_map]
     omega
    refine uB ?_
    refine Or.inl ?_
    refine Or.inl ?_
    refine h9 _ _ _ _ ⟨D, E, ds, tl, rfl, rfl, hS, by omega, ?_⟩
    refine Or.inl ?_
    refine h10 _ _ _ _ ⟨D, E, ds, tl, rfl, rfl, hS, by omega, ?_⟩
    refine Or.inl ?_
    refine h6 _ _ _ _ ⟨_, rfl, rfl, ?_, by omega, ?_⟩
    ·have := nO ds
     have := hS.w
     simp only [jBk, List.length_append, List.length_map]
     omega
    refine uB ?_
    refine Or.inl ?_
    refine Or.inl ?_
    refine h11 _ _ _ _ ⟨D, E, ds, tl, rfl, rfl, hS, by omega, ?_⟩
    refine uB ?_
    refine Or.inl ?_
    refine h12 _ _ _ _ ⟨D, E, ds, tl, rfl, rfl, hS, by omega, ?_⟩
    refine uB ?_
    refine qM (fun hb => by simp at hb) (fun hb => ?_)
    refine Or.inl ?_
    refine Or.inr ?_
    refine h13 _ _ _ (by omega) (by omega) fun n' v' hn' => ?_
    intro v2 hv2
    cases hv2
    refine Or.inl ?_
    refine Or.inl ?_
    refine And.intro ⟨by omega, by omega⟩ ?_
    refine Or.inl ?_
    refine ⟨(i + 1, n', v'), ⟨⟨_, rfl, rfl⟩, ⟨_, rfl, rfl⟩, ⟨_, rfl, rfl⟩, trivial⟩, trivial, ⟨?_, ?_⟩, ?_⟩
    ·show i + 1 ≤ 2; omega
    ·show n' ≤ 30000; omega
    ·show 2 - (i + 1) < 2 - i; omega
   ·refine h4 _ _ _ _ ⟨rfl, rfl, by omega, ?_⟩
    intro _
    refine Or.inl ?_
    exact hQ
end
section
variable {G : Nat → List SV → SV → Prop} {Γ : qC}
theorem jSj (hΓ : ∀ d f l H Q, Gam PT G d f l H Q → Γ d f l H Q) : jRn Γ := by
 intro d n v Q hn hd hQ
 refine hΓ _ _ _ _ _ ⟨c5, ?_, fun j => match j with | 0 => ⟨n, [], 0⟩ | 1 => ⟨v, [], 0⟩ | _ => ⟨0, [], 0⟩, ?_, ?_, rfl, ⟨?_, (fun t h => by cases h), (fun t h => by cases h)⟩, ?_⟩
 ·show c5 ∈ wU csT 5
  rw [show wU csT 5 = [c5] from rfl]; simp
 ·simp [c5, LT.ev, evL]; omega
 ·simp [c5, jW, SX.den, LT.ev, evL]
 ·intro t ht
  simp only [c5, List.mem_cons, List.not_mem_nil, or_false] at ht
  rcases ht with rfl | rfl <;> simp [LT.ev, evL] <;> omega
 ·intro p hp ρ' hag hF
  simp only [c5, List.mem_cons, List.not_mem_nil, or_false] at hp
  subst hp
  have h0 : (ρ' 0).z = n := congrArg Rv.z (hag 0 (by show 0 < 2; omega))
  have f1 := hF.F ⟨0, [(2, 1)]⟩ (by simp)
  have f2 := hF.F ⟨0, [(2, (-1)), (0, 2000000)]⟩ (by simp)
  have f3 := hF.F ⟨0, [(3, 1)]⟩ (by simp)
  have f4 := hF.F ⟨0, [(3, (-1)), (0, 1)]⟩ (by simp)
  have f5 := hF.F ⟨0, [(5, 1)]⟩ (by simp)
  have f6 := hF.F ⟨0, [(5, (-1)), (0, 1)]⟩ (by simp)
  simp only [LT.ev, evL] at f1 f2 f3 f4 f5 f6
  rw [h0] at f2 f4 f6
  have := hQ (ρ' 2).z.toNat (ρ' 3).z.toNat (ρ' 4).z.toNat (ρ' 5).z.toNat (ρ' 6).z (ρ' 7).z (by omega) (by omega) (by omega)
  simpa [SX.den, jW, denH, LT.ev, evL] using this
theorem jVw (hΓ : ∀ d f l H Q, Gam PT G d f l H Q → Γ d f l H Q) : jYd Γ := by
 intro d m Q hm hd hQ
 refine hΓ _ _ _ _ _ ⟨c13, ?_, fun j => match j with | 0 => ⟨m, [], 0⟩ | _ => ⟨0, [], 0⟩, ?_, ?_, rfl, ⟨?_, (fun t h => by cases h), (fun t h => by cases h)⟩, ?_⟩
 ·show c13 ∈ wU csT 13
  rw [show wU csT 13 = [c13] from rfl]; simp
 ·simp [c13, LT.ev, evL]; omega
 ·simp [c13, jW, SX.den, LT.ev, evL]
 ·intro t ht
  simp only [c13, List.mem_cons, List.not_mem_nil, or_false] at ht
  rcases ht with rfl | rfl <;> simp [LT.ev, evL] <;> omega
 ·intro p hp ρ' hag hF
  simp only [c13, List.mem_cons, List.not_mem_nil, or_false] at hp
  subst hp
  have f1 := hF.F ⟨0, [(1, 1)]⟩ (by simp)
  have f2 := hF.F ⟨30000, [(1, (-1))]⟩ (by simp)
  simp only [LT.ev, evL] at f1 f2
  have := hQ (ρ' 1).z.toNat (ρ' 2).z.toNat (by omega)
  simpa [SX.den, jW, denH, LT.ev, evL] using this
end
end
end Go.Proofs.YthfmepmchaofjaaGreat.Ev.Lf
