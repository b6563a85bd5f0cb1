/-
Walks of the reference over trees.
-/
import Derived.Test.YthfmepmchaofjaaGreatLfB
set_option linter.all false
namespace Go.Proofs.YthfmepmchaofjaaGreat.Ev.Lf
noncomputable section
open Go Ev Rf
set_option maxRecDepth 2000
set_option maxHeartbeats 4000000
section
variable {G : Nat → List SV → SV → Prop} {Γ : qC}
theorem p26 (d : Nat) (l : List SV) (H : Hp) (Q : Q2) (h : fD (d + 1) l H Q) : wF (PT.C G) Γ LL d 26 g26 l H Q := by
 obtain ⟨D, E, o, g, n, ps, rows, rfl, rfl, rfl, hC, hX, hn, hB, hd, hQ⟩ := h
 have hlen := yK hC
 have e1 : LL = 2000000000000 := rfl
 have e2 : NB = 1000000 := rfl
 refine Or.inl ?_
 refine Or.inl ?_
 refine jN 0 ⟨[1], [], Nat, fun i => [(5, .i .i64 (i : Int)), (0, .ts 1 (g + i) (o.length + i) 1)], fun i => [SB D E, ⟨9, g + i, .xs (o ++ (ps.take i).map (jC 35))⟩], fun i => i ≤ ps.length, fun i => ps.length - i, ⟨0, ⟨⟨_, rfl, rfl⟩, ⟨_, rfl, rfl⟩, ⟨_, rfl, rfl⟩, trivial⟩, ?_, Nat.zero_le _, ?_⟩, ?_⟩
 ·simp
 ·show ps.length - 0 < LL
  omega
 intro i hi
 refine Or.inl ?_
 refine Or.inl ?_
 refine And.intro (fun hlt => ?_) (fun hge => ?_)
 ·refine Or.inl ?_
  refine Or.inl ?_
  refine Or.inl ?_
  refine And.intro ⟨by omega, by omega⟩ ?_
  intro p hp
  obtain ⟨q, kk, b, hq, rfl⟩ := qY hC (k := i) (by simpa using hp)
  have hq1 := hX q (List.mem_of_getElem? hq)
  unfold okX at hq1
  refine And.intro (by omega) ?_
  intro _ _
  refine Or.inl ?_
  refine Or.inl ?_
  refine zW ?_
  refine And.intro ⟨?_, ?_⟩ ?_
  ·show (o.length + i + 1) * 16 ≤ 100000000000000; omega
  ·show (o.length + i + 1) ≤ 100000000000000; omega
  refine Or.inl ?_
  refine Or.inl ?_
  refine And.intro ⟨by omega, by omega⟩ ?_
  refine Or.inl ?_
  refine ⟨i + 1, ⟨⟨_, rfl, rfl⟩, ⟨_, rfl, rfl⟩, ⟨_, rfl, rfl⟩, trivial⟩, ⟨rfl, ?_, trivial⟩, ?_, ?_⟩
  ·rw [jI hq, List.map_append, ← List.append_assoc]; rfl
  ·show i + 1 ≤ ps.length; omega
  ·show ps.length - (i + 1) < ps.length - i; omega
 ·obtain rfl : i = ps.length := by omega
  refine Or.inl ?_
  refine Or.inl ?_
  have hQ' : Q (.ts 1 (g + ps.length) (o.length + ps.length) 1) [SB D E, ⟨9, g + ps.length, .xs (o ++ (ps.take ps.length).map (jC 35))⟩] := by rw [List.take_length]; exact hQ
  exact hQ'
end
section
variable {G : Nat → List SV → SV → Prop} {Γ : qC}
theorem p27 (hc26 : ∀ d l H Q, fD d l H Q → Γ d 26 l H Q) (hc27 : ∀ d l H Q, jHq d l H Q → Γ d 27 l H Q) (d : Nat) (l : List SV) (H : Hp) (Q : Q2) (h : jHq (d + 1) l H Q) : wF (PT.C G) Γ LL d 27 g27 l H Q := by
 obtain ⟨D, E, o, g, n, t, row, rfl, rfl, rfl, hT, hO, hn, hd, hQ⟩ := h
 obtain ⟨k, x, ks, ld, ft, tr⟩ := t
 simp only [isT] at hT
 obtain ⟨n1, n2, n3, m4, v4, m5, v5, kr, lr, fr, b, rn, rv, rfl, hK, hL, hF, htr⟩ := hT
 simp only [okT] at hO
 obtain ⟨ox, oks, old, oft, otr, bk, bl, bf⟩ := hO
 simp only [wtT] at hn hd
 have e1 : LL = 2000000000000 := rfl
 have e2 : NB = 1000000 := rfl
 have hlen := wA hK
 have hox : x.1 ≤ 200000000000 := ox
 have fin : ∀ (A B : Nat) (L : List Tx), L = o ++ qW (.mk k x ks ld ft tr) → A = g + (qW (.mk k x ks ld ft tr)).length → B = o.length + (qW (.mk k x ks ld ft tr)).length → Q (.ts 1 A B 1) [SB D E, ⟨9, A, .xs L⟩] := by
  rintro _ _ _ rfl rfl rfl; exact hQ
 refine Or.inl ?_
 refine Or.inl ?_
 refine Or.inl ?_
 refine hc26 _ _ _ _ ⟨D, E, o, g, _, ld, lr, rfl, rfl, rfl, hL, old, by omega, bl, by omega, ?_⟩
 refine Or.inl ?_
 refine And.intro (fun hk => ?_) (fun hk => ?_)
 ·refine Or.inl ?_
  intro _ _
  refine And.intro (fun hx => ?_) (fun hx => ?_)
  ·refine Or.inl ?_
   refine Or.inl ?_
   refine And.intro (by omega) ?_
   intro _ _
   refine Or.inl ?_
   refine Or.inl ?_
   refine zW ?_
   refine And.intro ⟨?_, ?_⟩ ?_
   ·show (o.length + ld.length + 1) * 16 ≤ 100000000000000; omega
   ·show (o.length + ld.length + 1) ≤ 100000000000000; omega
   refine Or.inl ?_
   have hlf : yL k x = [jC 61 x] := by unfold yL; rw [if_neg (by omega), if_pos ⟨hk, hx⟩]
   refine Or.inl ?_
   refine jN 1 ⟨[3], [], Nat, fun i => [(5, .i .i64 (i : Int)), (0, .ts 1 (g + ld.length + ([jC 61 x] : List Tx).length + (jH (ks.take i)).length) (o.length + ld.length + ([jC 61 x] : List Tx).length + (jH (ks.take i)).length) 1)], fun i => [SB D E, ⟨9, g + ld.length + ([jC 61 x] : List Tx).length + (jH (ks.take i)).length, .xs (o ++ (ld.map (jC 35) ++ ([jC 61 x] ++ jH (ks.take i))))⟩, ⟨51, 0, .l [.i .i64 k, .i .i64 n1, .i .i64 n2, .i .i64 n3, .s m4 v4, .s m5 v5, .s x.1 x.2, .qx 12 kr, .qx 2 lr, .qx 2 fr, .b b, .s rn rv]⟩, ⟨9, 0, .l [.s (1 + x.1) (61 + x.2 * 256 ^ 1)]⟩], fun i => i ≤ ks.length, fun i => ks.length - i, ⟨0, ⟨⟨_, rfl, rfl⟩, ⟨_, rfl, rfl⟩, ⟨_, rfl, rfl⟩, trivial⟩, ?_, Nat.zero_le _, ?_⟩, ?_⟩
   ·refine congrArg (fun L => ([SB D E, ⟨9, g + ld.length + ([jC 61 x] : List Tx).length + (jH (ks.take 0)).length, .xs L⟩, ⟨51, 0, .l [.i .i64 k, .i .i64 n1, .i .i64 n2, .i .i64 n3, .s m4 v4, .s m5 v5, .s x.1 x.2, .qx 12 kr, .qx 2 lr, .qx 2 fr, .b b, .s rn rv]⟩, ⟨9, 0, .l [.s (1 + x.1) (61 + x.2 * 256 ^ 1)]⟩] : Hp)) (?_ : (o ++ ld.map (jC 35)) ++ [jC 61 x] = o ++ (ld.map (jC 35) ++ ([jC 61 x] ++ jH (ks.take 0))))
    simp [jH]
   ·show ks.length - 0 < LL
    omega
   intro i hi
   refine Or.inl ?_
   refine And.intro (fun hlt => ?_) (fun hge => ?_)
   ·refine Or.inl ?_
    refine Or.inl ?_
    refine And.intro ⟨by omega, by omega⟩ ?_
    intro p hp
    obtain ⟨t', ht', hr⟩ := qK hK (k := i) (by simpa using hp)
    have hr' := hr
    have hw := qL ht'
    have hot := qI oks ht'
    have hrl := qO (ks.take i)
    have hst : jH (ks.take (i + 1)) = jH (ks.take i) ++ qW t' := by rw [jI ht', yQ]; simp [jH]
    obtain ⟨k', x', ks', ld', ft', tr'⟩ := t'
    simp only [isT] at hr
    obtain ⟨n1', n2', n3', m4', v4', m5', v5', kr', lr', fr', b', rn', rv', rfl, _⟩ := hr
    refine Or.inl ?_
    refine hc27 _ _ _ _ ⟨D, E, _, _, _, _, _, rfl, rfl, ?_, hr', hot, ?_, ?_, ?_⟩
    ·simp only [List.length_append, List.length_map, List.length_cons, List.length_nil]; omega
    ·have hq : ([jC 61 x] : List Tx).length ≤ 1 := by simp
     omega
    ·omega
    refine Or.inl ?_
    refine Or.inl ?_
    refine And.intro ⟨by omega, by omega⟩ ?_
    refine Or.inl ?_
    refine ⟨i + 1, ⟨⟨_, rfl, rfl⟩, ⟨_, rfl, ?_⟩, ⟨_, rfl, rfl⟩, trivial⟩, ⟨rfl, ?_, rfl, rfl, trivial⟩, ?_, ?_⟩
    ·rw [hst, List.length_append]; simp only [Nat.add_assoc]
    ·rw [hst, List.length_append]; simp only [List.append_assoc, Nat.add_assoc]
    ·show i + 1 ≤ ks.length; omega
    ·show ks.length - (i + 1) < ks.length - i; omega
   ·obtain rfl : i = ks.length := by omega
    have hrl := qO ks
    have hq : ([jC 61 x] : List Tx).length ≤ 1 := by simp
    refine Or.inl ?_
    refine Or.inl ?_
    refine hc26 _ _ _ _ ⟨D, E, _, _, _, ft, fr, rfl, rfl, ?_, hF, oft, ?_, bf, by omega, ?_⟩
    ·simp only [List.length_append, List.length_map, List.length_cons, List.length_nil]; omega
    ·rw [List.take_length]; omega
    refine Or.inl ?_
    refine qM (fun hb => ?_) (fun hb => ?_)
    ·rw [if_pos hb] at htr
     have hrn : rn ≤ 200000000000 := otr _ htr
     refine Or.inl ?_
     refine And.intro (by omega) ?_
     intro _ _
     refine Or.inl ?_
     refine Or.inl ?_
     refine zW ?_
     refine And.intro ⟨?_, ?_⟩ ?_
     ·show (o.length + ld.length + ([jC 61 x] : List Tx).length + (jH (ks.take ks.length)).length + ft.length + 1) * 16 ≤ 100000000000000
      rw [List.take_length]; omega
     ·show (o.length + ld.length + ([jC 61 x] : List Tx).length + (jH (ks.take ks.length)).length + ft.length + 1) ≤ 100000000000000
      rw [List.take_length]; omega
     refine Or.inl ?_
     refine Or.inl ?_
     refine Or.inl ?_
     refine fin _ _ _ ?_ ?_ ?_
     ·rw [List.take_length]; simp [qW, hlf, htr, trT, jC]
     ·rw [List.take_length]; simp [qW, hlf, htr, trT]; omega
     ·rw [List.take_length]; simp [qW, hlf, htr, trT]; omega
    ·rw [if_neg (by simp [hb])] at htr
     refine Or.inl ?_
     refine Or.inl ?_
     refine fin _ _ _ ?_ ?_ ?_
     ·rw [List.take_length]; simp [qW, hlf, htr, trT]
     ·rw [List.take_length]; simp [qW, hlf, htr, trT]; omega
     ·rw [List.take_length]; simp [qW, hlf, htr, trT]; omega
  ·refine Or.inl ?_
   refine And.intro (fun hk2 => absurd hk2 (by omega)) (fun _ => ?_)
   refine Or.inl ?_
   have hlf : yL k x = [] := by unfold yL; rw [if_neg (by omega), if_neg (fun q => q.2 hx)]
   refine Or.inl ?_
   refine jN 1 ⟨[3], [], Nat, fun i => [(5, .i .i64 (i : Int)), (0, .ts 1 (g + ld.length + ([] : List Tx).length + (jH (ks.take i)).length) (o.length + ld.length + ([] : List Tx).length + (jH (ks.take i)).length) 1)], fun i => [SB D E, ⟨9, g + ld.length + ([] : List Tx).length + (jH (ks.take i)).length, .xs (o ++ (ld.map (jC 35) ++ ([] ++ jH (ks.take i))))⟩, ⟨51, 0, .l [.i .i64 k, .i .i64 n1, .i .i64 n2, .i .i64 n3, .s m4 v4, .s m5 v5, .s x.1 x.2, .qx 12 kr, .qx 2 lr, .qx 2 fr, .b b, .s rn rv]⟩], fun i => i ≤ ks.length, fun i => ks.length - i, ⟨0, ⟨⟨_, rfl, rfl⟩, ⟨_, rfl, rfl⟩, ⟨_, rfl, rfl⟩, trivial⟩, ?_, Nat.zero_le _, ?_⟩, ?_⟩
   ·refine congrArg (fun L => ([SB D E, ⟨9, g + ld.length + ([] : List Tx).length + (jH (ks.take 0)).length, .xs L⟩, ⟨51, 0, .l [.i .i64 k, .i .i64 n1, .i .i64 n2, .i .i64 n3, .s m4 v4, .s m5 v5, .s x.1 x.2, .qx 12 kr, .qx 2 lr, .qx 2 fr, .b b, .s rn rv]⟩] : Hp)) (?_ : o ++ ld.map (jC 35) = o ++ (ld.map (jC 35) ++ ([] ++ jH (ks.take 0))))
    simp [jH]
   ·show ks.length - 0 < LL
    omega
   intro i hi
   refine Or.inl ?_
   refine And.intro (fun hlt => ?_) (fun hge => ?_)
   ·refine Or.inl ?_
    refine Or.inl ?_
    refine And.intro ⟨by omega, by omega⟩ ?_
    intro p hp
    obtain ⟨t', ht', hr⟩ := qK hK (k := i) (by simpa using hp)
    have hr' := hr
    have hw := qL ht'
    have hot := qI oks ht'
    have hrl := qO (ks.take i)
    have hst : jH (ks.take (i + 1)) = jH (ks.take i) ++ qW t' := by rw [jI ht', yQ]; simp [jH]
    obtain ⟨k', x', ks', ld', ft', tr'⟩ := t'
    simp only [isT] at hr
    obtain ⟨n1', n2', n3', m4', v4', m5', v5', kr', lr', fr', b', rn', rv', rfl, _⟩ := hr
    refine Or.inl ?_
    refine hc27 _ _ _ _ ⟨D, E, _, _, _, _, _, rfl, rfl, ?_, hr', hot, ?_, ?_, ?_⟩
    ·simp only [List.length_append, List.length_map, List.length_cons, List.length_nil]; omega
    ·have hq : ([] : List Tx).length ≤ 1 := by simp
     omega
    ·omega
    refine Or.inl ?_
    refine Or.inl ?_
    refine And.intro ⟨by omega, by omega⟩ ?_
    refine Or.inl ?_
    refine ⟨i + 1, ⟨⟨_, rfl, rfl⟩, ⟨_, rfl, ?_⟩, ⟨_, rfl, rfl⟩, trivial⟩, ⟨rfl, ?_, rfl, trivial⟩, ?_, ?_⟩
    ·rw [hst, List.length_append]; simp only [Nat.add_assoc]
    ·rw [hst, List.length_append]; simp only [List.append_assoc, Nat.add_assoc]
    ·show i + 1 ≤ ks.length; omega
    ·show ks.length - (i + 1) < ks.length - i; omega
   ·obtain rfl : i = ks.length := by omega
    have hrl := qO ks
    have hq : ([] : List Tx).length ≤ 1 := by simp
    refine Or.inl ?_
    refine Or.inl ?_
    refine hc26 _ _ _ _ ⟨D, E, _, _, _, ft, fr, rfl, rfl, ?_, hF, oft, ?_, bf, by omega, ?_⟩
    ·simp only [List.length_append, List.length_map, List.length_cons, List.length_nil]; omega
    ·rw [List.take_length]; omega
    refine Or.inl ?_
    refine qM (fun hb => ?_) (fun hb => ?_)
    ·rw [if_pos hb] at htr
     have hrn : rn ≤ 200000000000 := otr _ htr
     refine Or.inl ?_
     refine And.intro (by omega) ?_
     intro _ _
     refine Or.inl ?_
     refine Or.inl ?_
     refine zW ?_
     refine And.intro ⟨?_, ?_⟩ ?_
     ·show (o.length + ld.length + ([] : List Tx).length + (jH (ks.take ks.length)).length + ft.length + 1) * 16 ≤ 100000000000000
      rw [List.take_length]; omega
     ·show (o.length + ld.length + ([] : List Tx).length + (jH (ks.take ks.length)).length + ft.length + 1) ≤ 100000000000000
      rw [List.take_length]; omega
     refine Or.inl ?_
     refine Or.inl ?_
     refine Or.inl ?_
     refine fin _ _ _ ?_ ?_ ?_
     ·rw [List.take_length]; simp [qW, hlf, htr, trT, jC]
     ·rw [List.take_length]; simp [qW, hlf, htr, trT]; omega
     ·rw [List.take_length]; simp [qW, hlf, htr, trT]; omega
    ·rw [if_neg (by simp [hb])] at htr
     refine Or.inl ?_
     refine Or.inl ?_
     refine fin _ _ _ ?_ ?_ ?_
     ·rw [List.take_length]; simp [qW, hlf, htr, trT]
     ·rw [List.take_length]; simp [qW, hlf, htr, trT]; omega
     ·rw [List.take_length]; simp [qW, hlf, htr, trT]; omega
 ·refine Or.inl ?_
  refine Or.inl ?_
  refine And.intro (fun hk2 => ?_) (fun hk2 => ?_)
  ·refine Or.inl ?_
   refine Or.inl ?_
   refine And.intro (by omega) ?_
   intro _ _
   refine Or.inl ?_
   refine Or.inl ?_
   refine zW ?_
   refine And.intro ⟨?_, ?_⟩ ?_
   ·show (o.length + ld.length + 1) * 16 ≤ 100000000000000; omega
   ·show (o.length + ld.length + 1) ≤ 100000000000000; omega
   refine Or.inl ?_
   have hlf : yL k x = [jC 42 x] := by unfold yL; rw [if_pos hk2]
   refine Or.inl ?_
   refine jN 1 ⟨[3], [], Nat, fun i => [(5, .i .i64 (i : Int)), (0, .ts 1 (g + ld.length + ([jC 42 x] : List Tx).length + (jH (ks.take i)).length) (o.length + ld.length + ([jC 42 x] : List Tx).length + (jH (ks.take i)).length) 1)], fun i => [SB D E, ⟨9, g + ld.length + ([jC 42 x] : List Tx).length + (jH (ks.take i)).length, .xs (o ++ (ld.map (jC 35) ++ ([jC 42 x] ++ jH (ks.take i))))⟩, ⟨51, 0, .l [.i .i64 k, .i .i64 n1, .i .i64 n2, .i .i64 n3, .s m4 v4, .s m5 v5, .s x.1 x.2, .qx 12 kr, .qx 2 lr, .qx 2 fr, .b b, .s rn rv]⟩, ⟨9, 0, .l [.s (1 + x.1) (42 + x.2 * 256 ^ 1)]⟩], fun i => i ≤ ks.length, fun i => ks.length - i, ⟨0, ⟨⟨_, rfl, rfl⟩, ⟨_, rfl, rfl⟩, ⟨_, rfl, rfl⟩, trivial⟩, ?_, Nat.zero_le _, ?_⟩, ?_⟩
   ·refine congrArg (fun L => ([SB D E, ⟨9, g + ld.length + ([jC 42 x] : List Tx).length + (jH (ks.take 0)).length, .xs L⟩, ⟨51, 0, .l [.i .i64 k, .i .i64 n1, .i .i64 n2, .i .i64 n3, .s m4 v4, .s m5 v5, .s x.1 x.2, .qx 12 kr, .qx 2 lr, .qx 2 fr, .b b, .s rn rv]⟩, ⟨9, 0, .l [.s (1 + x.1) (42 + x.2 * 256 ^ 1)]⟩] : Hp)) (?_ : (o ++ ld.map (jC 35)) ++ [jC 42 x] = o ++ (ld.map (jC 35) ++ ([jC 42 x] ++ jH (ks.take 0))))
    simp [jH]
   ·show ks.length - 0 < LL
    omega
   intro i hi
   refine Or.inl ?_
   refine And.intro (fun hlt => ?_) (fun hge => ?_)
   ·refine Or.inl ?_
    refine Or.inl ?_
    refine And.intro ⟨by omega, by omega⟩ ?_
    intro p hp
    obtain ⟨t', ht', hr⟩ := qK hK (k := i) (by simpa using hp)
    have hr' := hr
    have hw := qL ht'
    have hot := qI oks ht'
    have hrl := qO (ks.take i)
    have hst : jH (ks.take (i + 1)) = jH (ks.take i) ++ qW t' := by rw [jI ht', yQ]; simp [jH]
    obtain ⟨k', x', ks', ld', ft', tr'⟩ := t'
    simp only [isT] at hr
    obtain ⟨n1', n2', n3', m4', v4', m5', v5', kr', lr', fr', b', rn', rv', rfl, _⟩ := hr
    refine Or.inl ?_
    refine hc27 _ _ _ _ ⟨D, E, _, _, _, _, _, rfl, rfl, ?_, hr', hot, ?_, ?_, ?_⟩
    ·simp only [List.length_append, List.length_map, List.length_cons, List.length_nil]; omega
    ·have hq : ([jC 42 x] : List Tx).length ≤ 1 := by simp
     omega
    ·omega
    refine Or.inl ?_
    refine Or.inl ?_
    refine And.intro ⟨by omega, by omega⟩ ?_
    refine Or.inl ?_
    refine ⟨i + 1, ⟨⟨_, rfl, rfl⟩, ⟨_, rfl, ?_⟩, ⟨_, rfl, rfl⟩, trivial⟩, ⟨rfl, ?_, rfl, rfl, trivial⟩, ?_, ?_⟩
    ·rw [hst, List.length_append]; simp only [Nat.add_assoc]
    ·rw [hst, List.length_append]; simp only [List.append_assoc, Nat.add_assoc]
    ·show i + 1 ≤ ks.length; omega
    ·show ks.length - (i + 1) < ks.length - i; omega
   ·obtain rfl : i = ks.length := by omega
    have hrl := qO ks
    have hq : ([jC 42 x] : List Tx).length ≤ 1 := by simp
    refine Or.inl ?_
    refine Or.inl ?_
    refine hc26 _ _ _ _ ⟨D, E, _, _, _, ft, fr, rfl, rfl, ?_, hF, oft, ?_, bf, by omega, ?_⟩
    ·simp only [List.length_append, List.length_map, List.length_cons, List.length_nil]; omega
    ·rw [List.take_length]; omega
    refine Or.inl ?_
    refine qM (fun hb => ?_) (fun hb => ?_)
    ·rw [if_pos hb] at htr
     have hrn : rn ≤ 200000000000 := otr _ htr
     refine Or.inl ?_
     refine And.intro (by omega) ?_
     intro _ _
     refine Or.inl ?_
     refine Or.inl ?_
     refine zW ?_
     refine And.intro ⟨?_, ?_⟩ ?_
     ·show (o.length + ld.length + ([jC 42 x] : List Tx).length + (jH (ks.take ks.length)).length + ft.length + 1) * 16 ≤ 100000000000000
      rw [List.take_length]; omega
     ·show (o.length + ld.length + ([jC 42 x] : List Tx).length + (jH (ks.take ks.length)).length + ft.length + 1) ≤ 100000000000000
      rw [List.take_length]; omega
     refine Or.inl ?_
     refine Or.inl ?_
     refine Or.inl ?_
     refine fin _ _ _ ?_ ?_ ?_
     ·rw [List.take_length]; simp [qW, hlf, htr, trT, jC]
     ·rw [List.take_length]; simp [qW, hlf, htr, trT]; omega
     ·rw [List.take_length]; simp [qW, hlf, htr, trT]; omega
    ·rw [if_neg (by simp [hb])] at htr
     refine Or.inl ?_
     refine Or.inl ?_
     refine fin _ _ _ ?_ ?_ ?_
     ·rw [List.take_length]; simp [qW, hlf, htr, trT]
     ·rw [List.take_length]; simp [qW, hlf, htr, trT]; omega
     ·rw [List.take_length]; simp [qW, hlf, htr, trT]; omega
  ·refine Or.inl ?_
   have hlf : yL k x = [] := by unfold yL; rw [if_neg hk2, if_neg (fun q => hk q.1)]
   refine Or.inl ?_
   refine jN 1 ⟨[3], [], Nat, fun i => [(5, .i .i64 (i : Int)), (0, .ts 1 (g + ld.length + ([] : List Tx).length + (jH (ks.take i)).length) (o.length + ld.length + ([] : List Tx).length + (jH (ks.take i)).length) 1)], fun i => [SB D E, ⟨9, g + ld.length + ([] : List Tx).length + (jH (ks.take i)).length, .xs (o ++ (ld.map (jC 35) ++ ([] ++ jH (ks.take i))))⟩, ⟨51, 0, .l [.i .i64 k, .i .i64 n1, .i .i64 n2, .i .i64 n3, .s m4 v4, .s m5 v5, .s x.1 x.2, .qx 12 kr, .qx 2 lr, .qx 2 fr, .b b, .s rn rv]⟩], fun i => i ≤ ks.length, fun i => ks.length - i, ⟨0, ⟨⟨_, rfl, rfl⟩, ⟨_, rfl, rfl⟩, ⟨_, rfl, rfl⟩, trivial⟩, ?_, Nat.zero_le _, ?_⟩, ?_⟩
   ·refine congrArg (fun L => ([SB D E, ⟨9, g + ld.length + ([] : List Tx).length + (jH (ks.take 0)).length, .xs L⟩, ⟨51, 0, .l [.i .i64 k, .i .i64 n1, .i .i64 n2, .i .i64 n3, .s m4 v4, .s m5 v5, .s x.1 x.2, .qx 12 kr, .qx 2 lr, .qx 2 fr, .b b, .s rn rv]⟩] : Hp)) (?_ : o ++ ld.map (jC 35) = o ++ (ld.map (jC 35) ++ ([] ++ jH (ks.take 0))))
    simp [jH]
   ·show ks.length - 0 < LL
    omega
   intro i hi
   refine Or.inl ?_
   refine And.intro (fun hlt => ?_) (fun hge => ?_)
   ·refine Or.inl ?_
    refine Or.inl ?_
    refine And.intro ⟨by omega, by omega⟩ ?_
    intro p hp
    obtain ⟨t', ht', hr⟩ := qK hK (k := i) (by simpa using hp)
    have hr' := hr
    have hw := qL ht'
    have hot := qI oks ht'
    have hrl := qO (ks.take i)
    have hst : jH (ks.take (i + 1)) = jH (ks.take i) ++ qW t' := by rw [jI ht', yQ]; simp [jH]
    obtain ⟨k', x', ks', ld', ft', tr'⟩ := t'
    simp only [isT] at hr
    obtain ⟨n1', n2', n3', m4', v4', m5', v5', kr', lr', fr', b', rn', rv', rfl, _⟩ := hr
    refine Or.inl ?_
    refine hc27 _ _ _ _ ⟨D, E, _, _, _, _, _, rfl, rfl, ?_, hr', hot, ?_, ?_, ?_⟩
    ·simp only [List.length_append, List.length_map, List.length_cons, List.length_nil]; omega
    ·have hq : ([] : List Tx).length ≤ 1 := by simp
     omega
    ·omega
    refine Or.inl ?_
    refine Or.inl ?_
    refine And.intro ⟨by omega, by omega⟩ ?_
    refine Or.inl ?_
    refine ⟨i + 1, ⟨⟨_, rfl, rfl⟩, ⟨_, rfl, ?_⟩, ⟨_, rfl, rfl⟩, trivial⟩, ⟨rfl, ?_, rfl, trivial⟩, ?_, ?_⟩
    ·rw [hst, List.length_append]; simp only [Nat.add_assoc]
    ·rw [hst, List.length_append]; simp only [List.append_assoc, Nat.add_assoc]
    ·show i + 1 ≤ ks.length; omega
    ·show ks.length - (i + 1) < ks.length - i; omega
   ·obtain rfl : i = ks.length := by omega
    have hrl := qO ks
    have hq : ([] : List Tx).length ≤ 1 := by simp
    refine Or.inl ?_
    refine Or.inl ?_
    refine hc26 _ _ _ _ ⟨D, E, _, _, _, ft, fr, rfl, rfl, ?_, hF, oft, ?_, bf, by omega, ?_⟩
    ·simp only [List.length_append, List.length_map, List.length_cons, List.length_nil]; omega
    ·rw [List.take_length]; omega
    refine Or.inl ?_
    refine qM (fun hb => ?_) (fun hb => ?_)
    ·rw [if_pos hb] at htr
     have hrn : rn ≤ 200000000000 := otr _ htr
     refine Or.inl ?_
     refine And.intro (by omega) ?_
     intro _ _
     refine Or.inl ?_
     refine Or.inl ?_
     refine zW ?_
     refine And.intro ⟨?_, ?_⟩ ?_
     ·show (o.length + ld.length + ([] : List Tx).length + (jH (ks.take ks.length)).length + ft.length + 1) * 16 ≤ 100000000000000
      rw [List.take_length]; omega
     ·show (o.length + ld.length + ([] : List Tx).length + (jH (ks.take ks.length)).length + ft.length + 1) ≤ 100000000000000
      rw [List.take_length]; omega
     refine Or.inl ?_
     refine Or.inl ?_
     refine Or.inl ?_
     refine fin _ _ _ ?_ ?_ ?_
     ·rw [List.take_length]; simp [qW, hlf, htr, trT, jC]
     ·rw [List.take_length]; simp [qW, hlf, htr, trT]; omega
     ·rw [List.take_length]; simp [qW, hlf, htr, trT]; omega
    ·rw [if_neg (by simp [hb])] at htr
     refine Or.inl ?_
     refine Or.inl ?_
     refine fin _ _ _ ?_ ?_ ?_
     ·rw [List.take_length]; simp [qW, hlf, htr, trT]
     ·rw [List.take_length]; simp [qW, hlf, htr, trT]; omega
     ·rw [List.take_length]; simp [qW, hlf, htr, trT]; omega
end
section
variable {G : Nat → List SV → SV → Prop} {Γ : qC}
theorem p8 (hc26 : ∀ d l H Q, fD d l H Q → Γ d 26 l H Q) (hc27 : ∀ d l H Q, jHq d l H Q → Γ d 27 l H Q) (d : Nat) (l : List SV) (H : Hp) (Q : Q2) (h : oU (d + 1) l H Q) : wF (PT.C G) Γ LL d 8 g8 l H Q := by
 obtain ⟨D, E, ds, tl, rfl, rfl, hS, hd, hQ⟩ := h
 obtain ⟨hD, hE, od, ot, bd, bt, hw⟩ := hS
 have e1 : LL = 2000000000000 := rfl
 have e2 : NB = 1000000 := rfl
 have hlen := fR hD
 refine Or.inl ?_
 refine Or.inl ?_
 refine Or.inl ?_
 refine jN 0 ⟨[1], [(.slot 3 9 (.xs []), 1)], Nat, fun i => [(4, .i .i64 (i : Int)), (3, .ts 1 (xE (ds.take i)).length (xE (ds.take i)).length 1)], fun i => [SB D E, ⟨9, (xE (ds.take i)).length, .xs (xE (ds.take i))⟩], fun i => i ≤ ds.length, fun i => ds.length - i, ⟨0, ⟨⟨_, rfl, rfl⟩, ⟨_, rfl, rfl⟩, ⟨_, rfl, rfl⟩, trivial⟩, rfl, Nat.zero_le _, ?_⟩, ?_⟩
 ·show ds.length - 0 < LL
  omega
 intro i hi
 refine Or.inl ?_
 refine And.intro (fun hlt => ?_) (fun hge => ?_)
 ·refine Or.inl ?_
  refine Or.inl ?_
  refine And.intro ⟨by omega, by omega⟩ ?_
  intro p hp
  obtain ⟨q, hq, hr⟩ := fU hD (k := i) (by simpa using hp)
  have hw1 := bW hq
  have hoq := fW od hq
  have hst : xE (ds.take (i + 1)) = xE (ds.take i) ++ jHd q := by rw [jI hq, sS]; simp [xE]
  have hrl := kA (ds.take i)
  have hrt := pT q.rt
  obtain ⟨hd', rt, ft⟩ := q
  dsimp only at hw1 hrt
  obtain ⟨hr0, w, dr, b, rtr, fr, rfl, h1, h2, h3⟩ := hr
  obtain ⟨o1, o2, o3, o4, o5⟩ := hoq
  have h2' := h2
  obtain ⟨k', x', ks', ld', ft', tr'⟩ := rt
  simp only [isT] at h2
  obtain ⟨n1', n2', n3', m4', v4', m5', v5', kr', lr', fr', b', rn', rv', rfl, _⟩ := h2
  refine Or.inl ?_
  refine hc26 _ _ _ _ ⟨D, E, _, _, _, hd', hr0, rfl, rfl, rfl, h1, o1, ?_, o4, by omega, ?_⟩
  ·omega
  refine Or.inl ?_
  refine Or.inl ?_
  refine Or.inl ?_
  refine And.intro ⟨by omega, by omega⟩ ?_
  intro p2 hp2
  rw [hp] at hp2
  obtain rfl := Option.some.inj hp2
  refine Or.inl ?_
  refine hc27 _ _ _ _ ⟨D, E, _, _, _, .mk k' x' ks' ld' ft' tr', _, rfl, rfl, ?_, h2', o2, ?_, ?_, ?_⟩
  ·simp only [List.length_append, List.length_map]
  ·omega
  ·omega
  refine Or.inl ?_
  refine Or.inl ?_
  refine Or.inl ?_
  refine And.intro ⟨by omega, by omega⟩ ?_
  intro p3 hp3
  rw [hp] at hp3
  obtain rfl := Option.some.inj hp3
  refine Or.inl ?_
  refine hc26 _ _ _ _ ⟨D, E, _, _, _, ft, fr, rfl, rfl, ?_, h3, o3, ?_, o5, by omega, ?_⟩
  ·simp only [List.length_append, List.length_map]
  ·omega
  refine Or.inl ?_
  refine Or.inl ?_
  refine And.intro ⟨by omega, by omega⟩ ?_
  refine Or.inl ?_
  refine ⟨i + 1, ⟨⟨_, rfl, rfl⟩, ⟨_, rfl, ?_⟩, ⟨_, rfl, rfl⟩, trivial⟩, ⟨rfl, ?_, trivial⟩, ?_, ?_⟩
  ·rw [hst]; simp only [jHd, List.length_append, List.length_map, Nat.add_assoc]
  ·rw [hst]; simp only [jHd, List.length_append, List.length_map, Nat.add_assoc, List.append_assoc]
  ·show i + 1 ≤ ds.length; omega
  ·show ds.length - (i + 1) < ds.length - i; omega
 ·obtain rfl : i = ds.length := by omega
  have hrl := kA ds
  refine Or.inl ?_
  refine Or.inl ?_
  refine hc26 _ _ _ _ ⟨D, E, _, _, _, tl, E, rfl, rfl, rfl, hE, ot, ?_, bt, by omega, ?_⟩
  ·rw [List.take_length]; omega
  refine Or.inl ?_
  refine zW ?_
  have hQ' : Q (.qs (xE (ds.take ds.length) ++ tl.map (jC 35))) [] := by rw [List.take_length]; exact hQ
  exact hQ'
end
section
variable {G : Nat → List SV → SV → Prop} {Γ : qC}
theorem jTn {L : List Tx} {i : Nat} {p : Tx} (h : L[i]? = some p) : (L.take (i + 1)).filter isN = (L.take i).filter isN ++ (if isN p = true then [p] else []) := by
 rw [jI h, List.filter_append]
 congr 1
 cases e : isN p <;> simp [List.filter, e]
theorem p10 (hc8 : ∀ d l H Q, oU d l H Q → Γ d 8 l H Q) (d : Nat) (l : List SV) (H : Hp) (Q : Q2) (h : rM (d + 1) l H Q) : wF (PT.C G) Γ LL d 10 g10 l H Q := by
 obtain ⟨D, E, ds, tl, rfl, rfl, hS, hd, hQ⟩ := h
 have e1 : LL = 2000000000000 := rfl
 have hw := hS.w
 have hrl : (lW ds tl).length ≤ 1000000000000 := by
  have := kA ds
  simp only [lW, List.length_append, List.length_map]
  omega
 rw [← qDf] at hQ
 have hpos := jXr ds tl
 refine Or.inl ?_
 refine Or.inl ?_
 refine Or.inl ?_
 refine hc8 _ _ _ _ ⟨D, E, ds, tl, rfl, rfl, hS, by omega, ?_⟩
 generalize lW ds tl = L at hrl hQ hpos
 refine Or.inl ?_
 refine Or.inl ?_
 refine jN 0 ⟨[4], [(.slot 3 9 (.xs []), 1)], Nat, fun i => [(5, .i .i64 (i : Int)), (3, .ts 1 ((L.take i).filter isN).length ((L.take i).filter isN).length 1)], fun i => [SB D E, ⟨9, ((L.take i).filter isN).length, .xs ((L.take i).filter isN)⟩], fun i => i ≤ L.length, fun i => L.length - i, ⟨0, ⟨⟨_, rfl, rfl⟩, ⟨_, rfl, rfl⟩, ⟨_, rfl, rfl⟩, trivial⟩, rfl, Nat.zero_le _, ?_⟩, ?_⟩
 ·show L.length - 0 < LL
  omega
 intro i hi
 have hfl : ((L.take i).filter isN).length ≤ i := by
  have := List.length_filter_le isN (L.take i)
  rw [List.length_take] at this
  omega
 refine Or.inl ?_
 refine Or.inl ?_
 refine And.intro (fun hlt => ?_) (fun hge => ?_)
 ·refine Or.inl ?_
  refine Or.inl ?_
  refine And.intro ⟨by omega, by omega⟩ ?_
  intro p hp
  have hp : L[i]? = some p := by simpa using hp
  have hst := jTn hp
  have hp1 := hpos p (List.mem_of_getElem? hp)
  intro _
  refine And.intro ⟨by omega, by omega⟩ ?_
  intro _ _
  refine And.intro (fun hx => ?_) (fun hx => ?_)
  ·have hN : isN p = true := by unfold isN; rw [decide_eq_true_eq]; exact hx
   rw [if_pos hN] at hst
   refine Or.inl ?_
   refine Or.inl ?_
   refine Or.inl ?_
   refine And.intro ⟨by omega, by omega⟩ ?_
   intro p2 hp2
   have hp2 : L[i]? = some p2 := by simpa using hp2
   rw [hp] at hp2
   obtain rfl := Option.some.inj hp2
   intro _
   refine Or.inl ?_
   refine Or.inl ?_
   refine zW ?_
   refine And.intro ⟨?_, ?_⟩ ?_
   ·show (((L.take i).filter isN).length + 1) * 16 ≤ 100000000000000; omega
   ·show (((L.take i).filter isN).length + 1) ≤ 100000000000000; omega
   refine Or.inl ?_
   refine Or.inl ?_
   refine And.intro ⟨by omega, by omega⟩ ?_
   refine Or.inl ?_
   refine ⟨i + 1, ⟨⟨_, rfl, rfl⟩, ⟨_, rfl, ?_⟩, ⟨_, rfl, rfl⟩, trivial⟩, ⟨rfl, ?_, trivial⟩, ?_, ?_⟩
   ·rw [hst, List.length_append]; rfl
   ·rw [hst, List.length_append]; rfl
   ·show i + 1 ≤ L.length; omega
   ·show L.length - (i + 1) < L.length - i; omega
  ·have hN : ¬ (isN p = true) := by unfold isN; rw [decide_eq_true_eq]; exact hx
   rw [if_neg hN, List.append_nil] at hst
   refine Or.inl ?_
   refine And.intro ⟨by omega, by omega⟩ ?_
   refine Or.inl ?_
   refine ⟨i + 1, ⟨⟨_, rfl, rfl⟩, ⟨_, rfl, ?_⟩, ⟨_, rfl, rfl⟩, trivial⟩, ⟨rfl, ?_, trivial⟩, ?_, ?_⟩
   ·rw [hst]
   ·rw [hst]
   ·show i + 1 ≤ L.length; omega
   ·show L.length - (i + 1) < L.length - i; omega
 ·obtain rfl : i = L.length := by omega
  refine Or.inl ?_
  refine Or.inl ?_
  refine zW ?_
  have hQ' : Q (.qs ((L.take L.length).filter isN)) [] := by rw [List.take_length]; exact hQ
  exact hQ'
end
section
variable {G : Nat → List SV → SV → Prop} {Γ : qC}
theorem p53 (hc53 : ∀ d l H Q, dO d l H Q → Γ d 53 l H Q) (d : Nat) (l : List SV) (H : Hp) (Q : Q2) (h : dO (d + 1) l H Q) : wF (PT.C G) Γ LL d 53 g53 l H Q := by
 obtain ⟨t, row, rfl, rfl, hT, hO, hd, hQ⟩ := h
 have hT0 := hT
 obtain ⟨k, x, ks, ld, ft, tr⟩ := t
 simp only [isT] at hT
 obtain ⟨n1, n2, n3, m4, v4, m5, v5, kr, lr, fr, b, rn, rv, rfl, hK, hL, hF, htr⟩ := hT
 simp only [okT] at hO
 obtain ⟨ox, oks, old, oft, otr, bk, bl, bf⟩ := hO
 simp only [wtT] at hd
 have e1 : LL = 2000000000000 := rfl
 have e2 : NB = 1000000 := rfl
 have hlen := wA hK
 have hfl := yK hF
 refine Or.inl ?_
 refine And.intro (fun hx => ?_) (fun hx => ?_)
 ·refine Or.inl ?_
  refine Or.inl ?_
  have hQ' : Q (.b true) [] := by
   have : ntd (.mk k x ks ld ft tr) = true := by
    simp only [ntd]
    cases ft with
    | nil => simp at hfl; omega
    | cons a l => rfl
   rw [← this]; exact hQ
  exact hQ'
 ·have hft : ft = [] := List.length_eq_zero_iff.1 (by omega)
  refine Or.inl ?_
  refine qM (fun hb => ?_) (fun hb => ?_)
  ·refine Or.inl ?_
   have hQ' : Q (.b true) [] := by
    have : ntd (.mk k x ks ld ft tr) = true := by
     rw [if_pos hb] at htr
     simp [ntd, htr]
    rw [← this]; exact hQ
   exact hQ'
  ·have hN : ntd (.mk k x ks ld ft tr) = bA ks := by
    rw [if_neg (by simp [hb])] at htr
    simp [ntd, htr, hft]
   rw [hN] at hQ
   refine Or.inl ?_
   refine jN 0 ⟨[1], [], Nat, fun i => [(3, .i .i64 (i : Int))], fun i => [⟨51, 0, .l [.i .i64 k, .i .i64 n1, .i .i64 n2, .i .i64 n3, .s m4 v4, .s m5 v5, .s x.1 x.2, .qx 12 kr, .qx 2 lr, .qx 2 fr, .b b, .s rn rv]⟩], fun i => i ≤ ks.length ∧ bA (ks.take i) = false, fun i => ks.length - i, ⟨0, ⟨⟨_, rfl, rfl⟩, ⟨_, rfl, rfl⟩, trivial⟩, rfl, ⟨Nat.zero_le _, rfl⟩, ?_⟩, ?_⟩
   ·show ks.length - 0 < LL
    omega
   intro i hi
   obtain ⟨hi, hI⟩ := hi
   refine Or.inl ?_
   refine And.intro (fun hlt => ?_) (fun hge => ?_)
   ·refine Or.inl ?_
    refine And.intro ⟨by omega, by omega⟩ ?_
    intro p hp
    obtain ⟨t', ht', hr⟩ := qK hK (k := i) (by simpa using hp)
    have hr' := hr
    have hw := qL ht'
    have hot := qI oks ht'
    obtain ⟨k', x', ks', ld', ft', tr'⟩ := t'
    simp only [isT] at hr
    obtain ⟨n1', n2', n3', m4', v4', m5', v5', kr', lr', fr', b', rn', rv', rfl, _, hL', _, _⟩ := hr
    have hll := yK hL'
    refine And.intro (fun hx2 => ?_) (fun hx2 => ?_)
    ·refine Or.inl ?_
     refine Or.inl ?_
     have hQ' : Q (.b true) [] := by
      have : bA ks = true := jFx ht' (by
       cases ld' with
       | nil => simp at hll; omega
       | cons a l => rfl)
      rw [← this]; exact hQ
     exact hQ'
    ·have hld : ld' = [] := List.length_eq_zero_iff.1 (by omega)
     refine Or.inl ?_
     refine Or.inl ?_
     refine And.intro ⟨by omega, by omega⟩ ?_
     intro p2 hp2
     rw [hp] at hp2
     obtain rfl := Option.some.inj hp2
     refine Or.inl ?_
     refine hc53 _ _ _ _ ⟨(.mk k' x' ks' ld' ft' tr'), _, rfl, rfl, hr', hot, by omega, ?_⟩
     refine uB ?_
     refine qM (fun hy => ?_) (fun hy => ?_)
     ·refine Or.inl ?_
      have hQ' : Q (.b true) [] := by
       have : bA ks = true := jFx ht' (by rw [hy]; simp)
       rw [← this]; exact hQ
      exact hQ'
     ·refine Or.inl ?_
      refine And.intro ⟨by omega, by omega⟩ ?_
      refine Or.inl ?_
      refine ⟨i + 1, ⟨⟨_, rfl, rfl⟩, ⟨_, rfl, rfl⟩, trivial⟩, ⟨rfl, trivial⟩, ⟨?_, ?_⟩, ?_⟩
      ·show i + 1 ≤ ks.length; omega
      ·exact jPh ht' hI (by rw [hy, hld]; rfl)
      ·show ks.length - (i + 1) < ks.length - i; omega
   ·obtain rfl : i = ks.length := by omega
    rw [List.take_length] at hI
    refine Or.inl ?_
    rw [hI] at hQ
    exact hQ
end
section
variable {G : Nat → List SV → SV → Prop} {Γ : qC}
theorem p31 (hc53 : ∀ d l H Q, dO d l H Q → Γ d 53 l H Q) (hc31 : ∀ d l H Q, bT d l H Q → Γ d 31 l H Q) (d : Nat) (l : List SV) (H : Hp) (Q : Q2) (h : bT (d + 1) l H Q) : wF (PT.C G) Γ LL d 31 g31 l H Q := by
 obtain ⟨t, row, rfl, rfl, hT, hO, hd, hQ⟩ := h
 have hT0 := hT
 obtain ⟨k, x, ks, ld, ft, tr⟩ := t
 simp only [isT] at hT
 obtain ⟨n1, n2, n3, m4, v4, m5, v5, kr, lr, fr, b, rn, rv, rfl, hK, hL, hF, htr⟩ := hT
 simp only [okT] at hO
 obtain ⟨ox, oks, old, oft, otr, bk, bl, bf⟩ := hO
 simp only [wtT] at hd
 have e1 : LL = 2000000000000 := rfl
 have e2 : NB = 1000000 := rfl
 have hlen := wA hK
 have hfl := yK hF
 have hN : inn (.mk k x ks ld ft tr) = wP k 0 ks := rfl
 rw [hN] at hQ
 refine Or.inl ?_
 refine Or.inl ?_
 refine jN 0 ⟨[1], [], Nat, fun i => [(3, .i .i64 (i : Int))], fun i => [⟨51, 0, .l [.i .i64 k, .i .i64 n1, .i .i64 n2, .i .i64 n3, .s m4 v4, .s m5 v5, .s x.1 x.2, .qx 12 kr, .qx 2 lr, .qx 2 fr, .b b, .s rn rv]⟩], fun i => i ≤ ks.length ∧ wP k 0 (ks.take i) = false, fun i => ks.length - i, ⟨0, ⟨⟨_, rfl, rfl⟩, ⟨_, rfl, rfl⟩, trivial⟩, rfl, ⟨Nat.zero_le _, rfl⟩, ?_⟩, ?_⟩
 ·show ks.length - 0 < LL
  omega
 intro i hi
 obtain ⟨hi, hI⟩ := hi
 refine Or.inl ?_
 refine And.intro (fun hlt => ?_) (fun hge => ?_)
 ·have hex : ∃ p, kr[i]? = some p := ⟨_, List.getElem?_eq_some_iff.2 ⟨by omega, rfl⟩⟩
  obtain ⟨p, hp⟩ := hex
  have hp0 : kr[i]? = some p := hp
  obtain ⟨t', ht', hr⟩ := qK hK hp
  have hr' := hr
  have hw := qL ht'
  have hot := qI oks ht'
  obtain ⟨k', x', ks', ld', ft', tr'⟩ := t'
  simp only [isT] at hr
  obtain ⟨n1', n2', n3', m4', v4', m5', v5', kr', lr', fr', b', rn', rv', rfl, _, hL', _, _⟩ := hr
  refine And.intro (fun hk => ?_) (fun hk => ?_)
  ·refine Or.inl ?_
   refine Or.inl ?_
   refine And.intro ⟨by omega, by omega⟩ ?_
   refine And.intro (fun h2 => ?_) (fun h2 => ?_)
   ·refine Or.inl ?_
    refine Or.inl ?_
    refine And.intro ⟨by omega, by omega⟩ ?_
    intro p2 hp2
    have hp2 : kr[i]? = some p2 := by simpa using hp2
    rw [hp0] at hp2
    obtain rfl := Option.some.inj hp2
    refine Or.inl ?_
    refine hc53 _ _ _ _ ⟨(.mk k' x' ks' ld' ft' tr'), _, rfl, rfl, hr', hot, by omega, ?_⟩
    refine uB ?_
    refine Or.inl ?_
    refine qM (fun hn => ?_) (fun hn => ?_)
    ·rw [hn]
     refine Or.inl ?_
     have hQ' : Q (.b true) [] := by
      have : wP k 0 ks = true := wH ht' (by rw [hn]; simp [hk]; omega)
      rw [← this]; exact hQ
     exact hQ'
    ·rw [hn]
     refine Or.inl ?_
     refine And.intro ⟨by omega, by omega⟩ ?_
     intro p2 hp2
     have hp2 : kr[i]? = some p2 := by simpa using hp2
     rw [hp0] at hp2
     obtain rfl := Option.some.inj hp2
     refine Or.inl ?_
     refine hc31 _ _ _ _ ⟨(.mk k' x' ks' ld' ft' tr'), _, rfl, rfl, hr', hot, by omega, ?_⟩
     refine uB ?_
     refine qM (fun hy => ?_) (fun hy => ?_)
     ·refine Or.inl ?_
      have hQ' : Q (.b true) [] := by
       have : wP k 0 ks = true := wH ht' (by rw [hy]; simp)
       rw [← this]; exact hQ
      exact hQ'
     ·refine Or.inl ?_
      refine And.intro ⟨by omega, by omega⟩ ?_
      refine Or.inl ?_
      refine ⟨i + 1, ⟨⟨_, rfl, rfl⟩, ⟨_, rfl, rfl⟩, trivial⟩, ⟨rfl, trivial⟩, ⟨?_, ?_⟩, ?_⟩
      ·show i + 1 ≤ ks.length; omega
      ·exact wZ ht' hI (by rw [hy]; rw [hn]; simp)
      ·show ks.length - (i + 1) < ks.length - i; omega
   ·refine Or.inl ?_
    refine Or.inl ?_
    refine Or.inl ?_
    refine And.intro ⟨by omega, by omega⟩ ?_
    intro p2 hp2
    have hp2 : kr[i]? = some p2 := by simpa using hp2
    rw [hp0] at hp2
    obtain rfl := Option.some.inj hp2
    refine Or.inl ?_
    refine hc31 _ _ _ _ ⟨(.mk k' x' ks' ld' ft' tr'), _, rfl, rfl, hr', hot, by omega, ?_⟩
    refine uB ?_
    refine qM (fun hy => ?_) (fun hy => ?_)
    ·refine Or.inl ?_
     have hQ' : Q (.b true) [] := by
      have : wP k 0 ks = true := wH ht' (by rw [hy]; simp)
      rw [← this]; exact hQ
     exact hQ'
    ·refine Or.inl ?_
     refine And.intro ⟨by omega, by omega⟩ ?_
     refine Or.inl ?_
     refine ⟨i + 1, ⟨⟨_, rfl, rfl⟩, ⟨_, rfl, rfl⟩, trivial⟩, ⟨rfl, trivial⟩, ⟨?_, ?_⟩, ?_⟩
     ·show i + 1 ≤ ks.length; omega
     ·exact wZ ht' hI (by rw [hy]; simp; omega)
     ·show ks.length - (i + 1) < ks.length - i; omega
  ·refine Or.inl ?_
   refine Or.inl ?_
   refine Or.inl ?_
   refine Or.inl ?_
   refine And.intro ⟨by omega, by omega⟩ ?_
   intro p2 hp2
   have hp2 : kr[i]? = some p2 := by simpa using hp2
   rw [hp0] at hp2
   obtain rfl := Option.some.inj hp2
   refine Or.inl ?_
   refine hc31 _ _ _ _ ⟨(.mk k' x' ks' ld' ft' tr'), _, rfl, rfl, hr', hot, by omega, ?_⟩
   refine uB ?_
   refine qM (fun hy => ?_) (fun hy => ?_)
   ·refine Or.inl ?_
    have hQ' : Q (.b true) [] := by
     have : wP k 0 ks = true := wH ht' (by rw [hy]; simp)
     rw [← this]; exact hQ
    exact hQ'
   ·refine Or.inl ?_
    refine And.intro ⟨by omega, by omega⟩ ?_
    refine Or.inl ?_
    refine ⟨i + 1, ⟨⟨_, rfl, rfl⟩, ⟨_, rfl, rfl⟩, trivial⟩, ⟨rfl, trivial⟩, ⟨?_, ?_⟩, ?_⟩
    ·show i + 1 ≤ ks.length; omega
    ·exact wZ ht' hI (by rw [hy]; simp [hk])
    ·show ks.length - (i + 1) < ks.length - i; omega
 ·obtain rfl : i = ks.length := by omega
  rw [List.take_length] at hI
  refine Or.inl ?_
  rw [hI] at hQ
  exact hQ
end
section
variable {G : Nat → List SV → SV → Prop} {Γ : qC}
theorem p12 (hc31 : ∀ d l H Q, bT d l H Q → Γ d 31 l H Q) (d : Nat) (l : List SV) (H : Hp) (Q : Q2) (h : dP (d + 1) l H Q) : wF (PT.C G) Γ LL d 12 g12 l H Q := by
 obtain ⟨D, E, ds, tl, rfl, rfl, hS, hd, hQ⟩ := h
 obtain ⟨hD, hE, od, ot, bd, bt, hw⟩ := hS
 have e1 : LL = 2000000000000 := rfl
 have e2 : NB = 1000000 := rfl
 have hlen := fR hD
 refine Or.inl ?_
 refine Or.inl ?_
 refine jN 0 ⟨[1], [], Nat, fun i => [(3, .i .i64 (i : Int))], fun i => [SB D E], fun i => i ≤ ds.length ∧ dL (ds.take i) = false, fun i => ds.length - i, ⟨0, ⟨⟨_, rfl, rfl⟩, ⟨_, rfl, rfl⟩, trivial⟩, rfl, ⟨Nat.zero_le _, rfl⟩, ?_⟩, ?_⟩
 ·show ds.length - 0 < LL
  omega
 intro i hi
 obtain ⟨hi, hI⟩ := hi
 refine Or.inl ?_
 refine And.intro (fun hlt => ?_) (fun hge => ?_)
 ·refine Or.inl ?_
  refine And.intro ⟨by omega, by omega⟩ ?_
  intro p hp
  obtain ⟨q, hq, hr⟩ := fU hD (k := i) (by simpa using hp)
  have hw1 := bW hq
  have hoq := fW od hq
  obtain ⟨hd', rt, ft⟩ := q
  dsimp only at hw1
  obtain ⟨hr0, w, dr, b, rtr, fr, rfl, h1, h2, h3⟩ := hr
  obtain ⟨o1, o2, o3, o4, o5⟩ := hoq
  have h2' := h2
  obtain ⟨k', x', ks', ld', ft', tr'⟩ := rt
  simp only [isT] at h2
  obtain ⟨n1', n2', n3', m4', v4', m5', v5', kr', lr', fr', b', rn', rv', rfl, _⟩ := h2
  refine Or.inl ?_
  refine hc31 _ _ _ _ ⟨.mk k' x' ks' ld' ft' tr', _, rfl, rfl, h2', o2, ?_, ?_⟩
  ·omega
  refine uB ?_
  refine qM (fun hy => ?_) (fun hy => ?_)
  ·refine Or.inl ?_
   have hQ' : Q (.b true) [] := by
    have : dL ds = true := jFm hq hy
    rw [← this]; exact hQ
   exact hQ'
  ·refine Or.inl ?_
   refine And.intro ⟨by omega, by omega⟩ ?_
   refine Or.inl ?_
   refine ⟨i + 1, ⟨⟨_, rfl, rfl⟩, ⟨_, rfl, rfl⟩, trivial⟩, ⟨rfl, trivial⟩, ⟨?_, ?_⟩, ?_⟩
   ·show i + 1 ≤ ds.length; omega
   ·exact jBw hq hI hy
   ·show ds.length - (i + 1) < ds.length - i; omega
 ·obtain rfl : i = ds.length := by omega
  rw [List.take_length] at hI
  refine Or.inl ?_
  rw [hI] at hQ
  exact hQ
end
end
end Go.Proofs.YthfmepmchaofjaaGreat.Ev.Lf
