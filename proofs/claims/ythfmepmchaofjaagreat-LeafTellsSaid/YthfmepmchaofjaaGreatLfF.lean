/-
A walk over trees, into a row of texts.
-/
import Derived.Test.YthfmepmchaofjaaGreatLfB
set_option linter.all false
namespace Go.Proofs.YthfmepmchaofjaaGreat.Ev.Lf
noncomputable section
open Go Ev Rf
set_option maxRecDepth 2000
set_option maxHeartbeats 4000000
section
variable {G : Nat → List SV → SV → Prop} {Γ : qC}
set_option maxRecDepth 4000 in
theorem p51R (hc24 : ∀ d l H Q, aY (some 35) d l H Q → Γ d 24 l H Q) (hc25 : ∀ d l H Q, aY none d l H Q → Γ d 25 l H Q) (hc51 : ∀ d l H Q, lJ d l H Q → Γ d 51 l H Q) (d : Nat) (l : List SV) (H : Hp) (Q : Q2) (h : lJ (d + 1) l H Q) : wF (PT.C G) Γ LL d 51 g51 l H Q := by
 obtain ⟨D, E, o, t, row, rfl, rfl, hT, hO, hn, hd, hQ⟩ := h
 obtain ⟨k, x, ks, ld, ft, tr⟩ := t
 simp only [isT] at hT
 obtain ⟨n1, n2, n3, m4, v4, m5, v5, kr, lr, fr, b, rn, rv, rfl, hK, hL, hF, htr⟩ := hT
 simp only [okT] at hO
 obtain ⟨ox, oks, old, oft, otr, bk, bl, bf⟩ := hO
 simp only [wtT] at hn hd
 have e1 : LL = 2000000000000 := rfl
 have e2 : NB = 1000000 := rfl
 have hlen := wA hK
 have hfl := yK hF
 have hox : x.1 ≤ 200000000000 := ox
 have fin : ∀ o' : List Tx, o' = (o ++ qW (.mk k x ks ld ft tr)) → Q (.tup []) (HR D E (o')) := by
  rintro _ rfl; exact hQ
 have hone : True := trivial
 ·have hll := yK hL
  refine Or.inl ?_
  refine jN 0 ⟨[1, 2, 3, 13, 14], [], Nat, fun i => [(15, .i .i64 (i : Int))], fun i => HR D E (o ++ (ld.take i).map (jC 35)) ++ [⟨51, 0, .l [.i .i64 k, .i .i64 n1, .i .i64 n2, .i .i64 n3, .s m4 v4, .s m5 v5, .s x.1 x.2, .qx 12 kr, .qx 2 lr, .qx 2 fr, .b b, .s rn rv]⟩], fun i => i ≤ ld.length, fun i => ld.length - i, ⟨0, ⟨⟨_, rfl, rfl⟩, ⟨_, rfl, rfl⟩, ⟨_, rfl, rfl⟩, ⟨_, rfl, rfl⟩, ⟨_, rfl, rfl⟩, ⟨_, rfl, rfl⟩, trivial⟩, ?_, Nat.zero_le _, ?_⟩, ?_⟩
  ·refine congrArg (fun o' => HR D E (o') ++ [⟨51, 0, .l [.i .i64 k, .i .i64 n1, .i .i64 n2, .i .i64 n3, .s m4 v4, .s m5 v5, .s x.1 x.2, .qx 12 kr, .qx 2 lr, .qx 2 fr, .b b, .s rn rv]⟩]) (?_ : (o) = (o ++ (ld.take 0).map (jC 35)))
   simp
  ·show ld.length - 0 < LL
   omega
  intro i hi
  refine And.intro (fun hlt => ?_) (fun hge => ?_)
  ·refine And.intro ⟨by omega, by omega⟩ ?_
   intro p hp
   obtain ⟨q, kk, bb, hq, rfl⟩ := qY hL (k := i) (by simpa using hp)
   have hqx := old q (List.mem_of_getElem? hq)
   unfold okX at hqx
   refine Or.inl ?_
   refine Or.inl ?_
   refine hc24 _ _ _ _ ⟨D, E, _, q, rfl, rfl, ?_, ?_, by omega, ?_⟩
   ·omega
   ·simp only [List.length_append, List.length_map, List.length_take, List.length_cons, List.length_nil]; omega
   have hst : o ++ (ld.take (i + 1)).map (jC 35) = (o ++ (ld.take i).map (jC 35)) ++ [jC 35 q] := by rw [jI hq]; simp [jC]
   refine And.intro ⟨by omega, by omega⟩ ?_
   refine Or.inl ?_
   refine ⟨i + 1, ⟨⟨_, rfl, rfl⟩, ⟨_, rfl, rfl⟩, ⟨_, rfl, rfl⟩, ⟨_, rfl, rfl⟩, ⟨_, rfl, rfl⟩, ⟨_, rfl, rfl⟩, trivial⟩, ?_, ?_, ?_⟩
   ·show xH (HR D E (o ++ (ld.take (i + 1)).map (jC 35)) ++ [⟨51, 0, .l [.i .i64 k, .i .i64 n1, .i .i64 n2, .i .i64 n3, .s m4 v4, .s m5 v5, .s x.1 x.2, .qx 12 kr, .qx 2 lr, .qx 2 fr, .b b, .s rn rv]⟩]) _
    rw [hst]
    exact ⟨rfl, rfl, rfl, rfl, trivial⟩
   ·show i + 1 ≤ ld.length; omega
   ·show ld.length - (i + 1) < ld.length - i; omega
  ·obtain rfl : i = ld.length := by omega
   refine And.intro (fun hk2 => ?_) (fun hk2 => ?_)
   ·refine Or.inl ?_
    refine Or.inl ?_
    refine And.intro (by omega) ?_
    intro _ _
    refine hc25 _ _ _ _ ⟨D, E, _, jC 42 x, rfl, rfl, ?_, ?_, by omega, ?_⟩
    ·show 1 + x.1 ≤ 300000000000; omega
    ·first | omega | (simp only [List.length_append, List.length_map, List.length_take]; omega)
    have hlf : yL k x = [jC 42 x] := by unfold yL; rw [if_pos hk2]
    refine Or.inl ?_
    refine jN 3 ⟨[1, 2, 3, 48, 49], [], Nat, fun i => [(50, .i .i64 (i : Int))], fun i => HR D E (o ++ (ld.map (jC 35) ++ ([jC 42 x] ++ jH (ks.take i)))) ++ [⟨51, 0, .l [.i .i64 k, .i .i64 n1, .i .i64 n2, .i .i64 n3, .s m4 v4, .s m5 v5, .s x.1 x.2, .qx 12 kr, .qx 2 lr, .qx 2 fr, .b b, .s rn rv]⟩], fun i => i ≤ ks.length, fun i => ks.length - i, ⟨0, ⟨⟨_, rfl, rfl⟩, ⟨_, rfl, rfl⟩, ⟨_, rfl, rfl⟩, ⟨_, rfl, rfl⟩, ⟨_, rfl, rfl⟩, ⟨_, rfl, rfl⟩, trivial⟩, ?_, Nat.zero_le _, ?_⟩, ?_⟩
    ·refine congrArg (fun o' => HR D E (o') ++ [⟨51, 0, .l [.i .i64 k, .i .i64 n1, .i .i64 n2, .i .i64 n3, .s m4 v4, .s m5 v5, .s x.1 x.2, .qx 12 kr, .qx 2 lr, .qx 2 fr, .b b, .s rn rv]⟩]) (?_ : ((o ++ (ld.take ld.length).map (jC 35)) ++ [jC 42 x]) = (o ++ (ld.map (jC 35) ++ ([jC 42 x] ++ jH (ks.take 0)))))
     rw [List.take_length]; simp [jH]
    ·show ks.length - 0 < LL
     omega
    intro i hi
    refine And.intro (fun hlt => ?_) (fun hge => ?_)
    ·refine And.intro ⟨by omega, by omega⟩ ?_
     intro p hp
     obtain ⟨t', ht', hr⟩ := qK hK (k := i) (by simpa using hp)
     have hr' := hr
     have hw := qL ht'
     have hot := qI oks ht'
     have hrl := qO (ks.take i)
     have hst : o ++ (ld.map (jC 35) ++ ([jC 42 x] ++ jH (ks.take (i + 1)))) = (o ++ (ld.map (jC 35) ++ ([jC 42 x] ++ jH (ks.take i)))) ++ qW t' := by rw [jI ht', yQ]; simp [jH]
     obtain ⟨k', x', ks', ld', ft', tr'⟩ := t'
     simp only [isT] at hr
     obtain ⟨n1', n2', n3', m4', v4', m5', v5', kr', lr', fr', b', rn', rv', rfl, _⟩ := hr
     refine Or.inl ?_
     refine Or.inl ?_
     refine Or.inl ?_
     refine Or.inl ?_
     refine hc51 _ _ _ _ ⟨D, E, _, (.mk k' x' ks' ld' ft' tr'), _, rfl, rfl, hr', hot, ?_, by omega, ?_⟩
     ·simp only [List.length_append, List.length_map, List.length_cons, List.length_nil]; omega
     refine And.intro ⟨by omega, by omega⟩ ?_
     refine Or.inl ?_
     refine ⟨i + 1, ⟨⟨_, rfl, rfl⟩, ⟨_, rfl, rfl⟩, ⟨_, rfl, rfl⟩, ⟨_, rfl, rfl⟩, ⟨_, rfl, rfl⟩, ⟨_, rfl, rfl⟩, trivial⟩, ?_, ?_, ?_⟩
     ·show xH (HR D E (o ++ (ld.map (jC 35) ++ ([jC 42 x] ++ jH (ks.take (i + 1))))) ++ [⟨51, 0, .l [.i .i64 k, .i .i64 n1, .i .i64 n2, .i .i64 n3, .s m4 v4, .s m5 v5, .s x.1 x.2, .qx 12 kr, .qx 2 lr, .qx 2 fr, .b b, .s rn rv]⟩]) _
      rw [hst]
      exact ⟨rfl, rfl, rfl, rfl, trivial⟩
     ·show i + 1 ≤ ks.length; omega
     ·show ks.length - (i + 1) < ks.length - i; omega
    ·obtain rfl : i = ks.length := by omega
     have hrl := qO ks
     refine Or.inl ?_
     refine jN 5 ⟨[1, 2, 3, 60, 61], [], Nat, fun i => [(62, .i .i64 (i : Int))], fun i => HR D E (o ++ (ld.map (jC 35) ++ ([jC 42 x] ++ (jH ks ++ (ft.take i).map (jC 35))))) ++ [⟨51, 0, .l [.i .i64 k, .i .i64 n1, .i .i64 n2, .i .i64 n3, .s m4 v4, .s m5 v5, .s x.1 x.2, .qx 12 kr, .qx 2 lr, .qx 2 fr, .b b, .s rn rv]⟩], fun i => i ≤ ft.length, fun i => ft.length - i, ⟨0, ⟨⟨_, rfl, rfl⟩, ⟨_, rfl, rfl⟩, ⟨_, rfl, rfl⟩, ⟨_, rfl, rfl⟩, ⟨_, rfl, rfl⟩, ⟨_, rfl, rfl⟩, trivial⟩, ?_, Nat.zero_le _, ?_⟩, ?_⟩
     ·refine congrArg (fun o' => HR D E (o') ++ [⟨51, 0, .l [.i .i64 k, .i .i64 n1, .i .i64 n2, .i .i64 n3, .s m4 v4, .s m5 v5, .s x.1 x.2, .qx 12 kr, .qx 2 lr, .qx 2 fr, .b b, .s rn rv]⟩]) (?_ : (o ++ (ld.map (jC 35) ++ ([jC 42 x] ++ jH (ks.take ks.length)))) = (o ++ (ld.map (jC 35) ++ ([jC 42 x] ++ (jH ks ++ (ft.take 0).map (jC 35))))))
      rw [List.take_length]; simp
     ·show ft.length - 0 < LL
      omega
     intro i hi
     refine And.intro (fun hlt => ?_) (fun hge => ?_)
     ·refine And.intro ⟨by omega, by omega⟩ ?_
      intro p hp
      obtain ⟨q, kk, bb, hq, rfl⟩ := qY hF (k := i) (by simpa using hp)
      have hqx := oft q (List.mem_of_getElem? hq)
      unfold okX at hqx
      refine Or.inl ?_
      refine Or.inl ?_
      refine hc24 _ _ _ _ ⟨D, E, _, q, rfl, rfl, ?_, ?_, by omega, ?_⟩
      ·omega
      ·simp only [List.length_append, List.length_map, List.length_take, List.length_cons, List.length_nil]; omega
      have hst : o ++ (ld.map (jC 35) ++ ([jC 42 x] ++ (jH ks ++ (ft.take (i + 1)).map (jC 35)))) = (o ++ (ld.map (jC 35) ++ ([jC 42 x] ++ (jH ks ++ (ft.take i).map (jC 35))))) ++ [jC 35 q] := by rw [jI hq]; simp [jC]
      refine And.intro ⟨by omega, by omega⟩ ?_
      refine Or.inl ?_
      refine ⟨i + 1, ⟨⟨_, rfl, rfl⟩, ⟨_, rfl, rfl⟩, ⟨_, rfl, rfl⟩, ⟨_, rfl, rfl⟩, ⟨_, rfl, rfl⟩, ⟨_, rfl, rfl⟩, trivial⟩, ?_, ?_, ?_⟩
      ·show xH (HR D E (o ++ (ld.map (jC 35) ++ ([jC 42 x] ++ (jH ks ++ (ft.take (i + 1)).map (jC 35))))) ++ [⟨51, 0, .l [.i .i64 k, .i .i64 n1, .i .i64 n2, .i .i64 n3, .s m4 v4, .s m5 v5, .s x.1 x.2, .qx 12 kr, .qx 2 lr, .qx 2 fr, .b b, .s rn rv]⟩]) _
       rw [hst]
       exact ⟨rfl, rfl, rfl, rfl, trivial⟩
      ·show i + 1 ≤ ft.length; omega
      ·show ft.length - (i + 1) < ft.length - i; omega
     ·obtain rfl : i = ft.length := by omega
      refine qM (fun hb => ?_) (fun hb => ?_)
      ·rw [if_pos hb] at htr
       have hrn : rn ≤ 200000000000 := otr _ htr
       refine Or.inl ?_
       refine hc24 _ _ _ _ ⟨D, E, _, (rn, rv), rfl, rfl, ?_, ?_, by omega, ?_⟩
       ·show rn ≤ 300000000000; omega
       ·simp only [List.length_append, List.length_map, List.length_take, List.length_cons, List.length_nil]; omega
       refine fin _ ?_
       rw [List.take_length]; simp [qW, hlf, htr, trT]
      ·rw [if_neg (by simp [hb])] at htr
       refine fin _ ?_
       rw [List.take_length]; simp [qW, hlf, htr, trT]
   ·refine Or.inl ?_
    refine And.intro (fun hk => ?_) (fun hk => ?_)
    ·refine Or.inl ?_
     intro _ _
     refine And.intro (fun hx => ?_) (fun hx => ?_)
     ·refine Or.inl ?_
      refine Or.inl ?_
      refine And.intro (by omega) ?_
      intro _ _
      refine hc25 _ _ _ _ ⟨D, E, _, jC 61 x, rfl, rfl, ?_, ?_, by omega, ?_⟩
      ·show 1 + x.1 ≤ 300000000000; omega
      ·first | omega | (simp only [List.length_append, List.length_map, List.length_take]; omega)
      have hlf : yL k x = [jC 61 x] := by unfold yL; rw [if_neg hk2, if_pos ⟨hk, hx⟩]
      refine Or.inl ?_
      refine jN 3 ⟨[1, 2, 3, 48, 49], [], Nat, fun i => [(50, .i .i64 (i : Int))], fun i => HR D E (o ++ (ld.map (jC 35) ++ ([jC 61 x] ++ jH (ks.take i)))) ++ [⟨51, 0, .l [.i .i64 k, .i .i64 n1, .i .i64 n2, .i .i64 n3, .s m4 v4, .s m5 v5, .s x.1 x.2, .qx 12 kr, .qx 2 lr, .qx 2 fr, .b b, .s rn rv]⟩], fun i => i ≤ ks.length, fun i => ks.length - i, ⟨0, ⟨⟨_, rfl, rfl⟩, ⟨_, rfl, rfl⟩, ⟨_, rfl, rfl⟩, ⟨_, rfl, rfl⟩, ⟨_, rfl, rfl⟩, ⟨_, rfl, rfl⟩, trivial⟩, ?_, Nat.zero_le _, ?_⟩, ?_⟩
      ·refine congrArg (fun o' => HR D E (o') ++ [⟨51, 0, .l [.i .i64 k, .i .i64 n1, .i .i64 n2, .i .i64 n3, .s m4 v4, .s m5 v5, .s x.1 x.2, .qx 12 kr, .qx 2 lr, .qx 2 fr, .b b, .s rn rv]⟩]) (?_ : ((o ++ (ld.take ld.length).map (jC 35)) ++ [jC 61 x]) = (o ++ (ld.map (jC 35) ++ ([jC 61 x] ++ jH (ks.take 0)))))
       rw [List.take_length]; simp [jH]
      ·show ks.length - 0 < LL
       omega
      intro i hi
      refine And.intro (fun hlt => ?_) (fun hge => ?_)
      ·refine And.intro ⟨by omega, by omega⟩ ?_
       intro p hp
       obtain ⟨t', ht', hr⟩ := qK hK (k := i) (by simpa using hp)
       have hr' := hr
       have hw := qL ht'
       have hot := qI oks ht'
       have hrl := qO (ks.take i)
       have hst : o ++ (ld.map (jC 35) ++ ([jC 61 x] ++ jH (ks.take (i + 1)))) = (o ++ (ld.map (jC 35) ++ ([jC 61 x] ++ jH (ks.take i)))) ++ qW t' := by rw [jI ht', yQ]; simp [jH]
       obtain ⟨k', x', ks', ld', ft', tr'⟩ := t'
       simp only [isT] at hr
       obtain ⟨n1', n2', n3', m4', v4', m5', v5', kr', lr', fr', b', rn', rv', rfl, _⟩ := hr
       refine Or.inl ?_
       refine Or.inl ?_
       refine Or.inl ?_
       refine Or.inl ?_
       refine hc51 _ _ _ _ ⟨D, E, _, (.mk k' x' ks' ld' ft' tr'), _, rfl, rfl, hr', hot, ?_, by omega, ?_⟩
       ·simp only [List.length_append, List.length_map, List.length_cons, List.length_nil]; omega
       refine And.intro ⟨by omega, by omega⟩ ?_
       refine Or.inl ?_
       refine ⟨i + 1, ⟨⟨_, rfl, rfl⟩, ⟨_, rfl, rfl⟩, ⟨_, rfl, rfl⟩, ⟨_, rfl, rfl⟩, ⟨_, rfl, rfl⟩, ⟨_, rfl, rfl⟩, trivial⟩, ?_, ?_, ?_⟩
       ·show xH (HR D E (o ++ (ld.map (jC 35) ++ ([jC 61 x] ++ jH (ks.take (i + 1))))) ++ [⟨51, 0, .l [.i .i64 k, .i .i64 n1, .i .i64 n2, .i .i64 n3, .s m4 v4, .s m5 v5, .s x.1 x.2, .qx 12 kr, .qx 2 lr, .qx 2 fr, .b b, .s rn rv]⟩]) _
        rw [hst]
        exact ⟨rfl, rfl, rfl, rfl, trivial⟩
       ·show i + 1 ≤ ks.length; omega
       ·show ks.length - (i + 1) < ks.length - i; omega
      ·obtain rfl : i = ks.length := by omega
       have hrl := qO ks
       refine Or.inl ?_
       refine jN 5 ⟨[1, 2, 3, 60, 61], [], Nat, fun i => [(62, .i .i64 (i : Int))], fun i => HR D E (o ++ (ld.map (jC 35) ++ ([jC 61 x] ++ (jH ks ++ (ft.take i).map (jC 35))))) ++ [⟨51, 0, .l [.i .i64 k, .i .i64 n1, .i .i64 n2, .i .i64 n3, .s m4 v4, .s m5 v5, .s x.1 x.2, .qx 12 kr, .qx 2 lr, .qx 2 fr, .b b, .s rn rv]⟩], fun i => i ≤ ft.length, fun i => ft.length - i, ⟨0, ⟨⟨_, rfl, rfl⟩, ⟨_, rfl, rfl⟩, ⟨_, rfl, rfl⟩, ⟨_, rfl, rfl⟩, ⟨_, rfl, rfl⟩, ⟨_, rfl, rfl⟩, trivial⟩, ?_, Nat.zero_le _, ?_⟩, ?_⟩
       ·refine congrArg (fun o' => HR D E (o') ++ [⟨51, 0, .l [.i .i64 k, .i .i64 n1, .i .i64 n2, .i .i64 n3, .s m4 v4, .s m5 v5, .s x.1 x.2, .qx 12 kr, .qx 2 lr, .qx 2 fr, .b b, .s rn rv]⟩]) (?_ : (o ++ (ld.map (jC 35) ++ ([jC 61 x] ++ jH (ks.take ks.length)))) = (o ++ (ld.map (jC 35) ++ ([jC 61 x] ++ (jH ks ++ (ft.take 0).map (jC 35))))))
        rw [List.take_length]; simp
       ·show ft.length - 0 < LL
        omega
       intro i hi
       refine And.intro (fun hlt => ?_) (fun hge => ?_)
       ·refine And.intro ⟨by omega, by omega⟩ ?_
        intro p hp
        obtain ⟨q, kk, bb, hq, rfl⟩ := qY hF (k := i) (by simpa using hp)
        have hqx := oft q (List.mem_of_getElem? hq)
        unfold okX at hqx
        refine Or.inl ?_
        refine Or.inl ?_
        refine hc24 _ _ _ _ ⟨D, E, _, q, rfl, rfl, ?_, ?_, by omega, ?_⟩
        ·omega
        ·simp only [List.length_append, List.length_map, List.length_take, List.length_cons, List.length_nil]; omega
        have hst : o ++ (ld.map (jC 35) ++ ([jC 61 x] ++ (jH ks ++ (ft.take (i + 1)).map (jC 35)))) = (o ++ (ld.map (jC 35) ++ ([jC 61 x] ++ (jH ks ++ (ft.take i).map (jC 35))))) ++ [jC 35 q] := by rw [jI hq]; simp [jC]
        refine And.intro ⟨by omega, by omega⟩ ?_
        refine Or.inl ?_
        refine ⟨i + 1, ⟨⟨_, rfl, rfl⟩, ⟨_, rfl, rfl⟩, ⟨_, rfl, rfl⟩, ⟨_, rfl, rfl⟩, ⟨_, rfl, rfl⟩, ⟨_, rfl, rfl⟩, trivial⟩, ?_, ?_, ?_⟩
        ·show xH (HR D E (o ++ (ld.map (jC 35) ++ ([jC 61 x] ++ (jH ks ++ (ft.take (i + 1)).map (jC 35))))) ++ [⟨51, 0, .l [.i .i64 k, .i .i64 n1, .i .i64 n2, .i .i64 n3, .s m4 v4, .s m5 v5, .s x.1 x.2, .qx 12 kr, .qx 2 lr, .qx 2 fr, .b b, .s rn rv]⟩]) _
         rw [hst]
         exact ⟨rfl, rfl, rfl, rfl, trivial⟩
        ·show i + 1 ≤ ft.length; omega
        ·show ft.length - (i + 1) < ft.length - i; omega
       ·obtain rfl : i = ft.length := by omega
        refine qM (fun hb => ?_) (fun hb => ?_)
        ·rw [if_pos hb] at htr
         have hrn : rn ≤ 200000000000 := otr _ htr
         refine Or.inl ?_
         refine hc24 _ _ _ _ ⟨D, E, _, (rn, rv), rfl, rfl, ?_, ?_, by omega, ?_⟩
         ·show rn ≤ 300000000000; omega
         ·simp only [List.length_append, List.length_map, List.length_take, List.length_cons, List.length_nil]; omega
         refine fin _ ?_
         rw [List.take_length]; simp [qW, hlf, htr, trT]
        ·rw [if_neg (by simp [hb])] at htr
         refine fin _ ?_
         rw [List.take_length]; simp [qW, hlf, htr, trT]
     ·refine Or.inl ?_
      have hlf : yL k x = [] := by unfold yL; rw [if_neg hk2, if_neg (fun q => q.2 hx)]
      refine Or.inl ?_
      refine jN 3 ⟨[1, 2, 3, 48, 49], [], Nat, fun i => [(50, .i .i64 (i : Int))], fun i => HR D E (o ++ (ld.map (jC 35) ++ ([] ++ jH (ks.take i)))) ++ [⟨51, 0, .l [.i .i64 k, .i .i64 n1, .i .i64 n2, .i .i64 n3, .s m4 v4, .s m5 v5, .s x.1 x.2, .qx 12 kr, .qx 2 lr, .qx 2 fr, .b b, .s rn rv]⟩], fun i => i ≤ ks.length, fun i => ks.length - i, ⟨0, ⟨⟨_, rfl, rfl⟩, ⟨_, rfl, rfl⟩, ⟨_, rfl, rfl⟩, ⟨_, rfl, rfl⟩, ⟨_, rfl, rfl⟩, ⟨_, rfl, rfl⟩, trivial⟩, ?_, Nat.zero_le _, ?_⟩, ?_⟩
      ·refine congrArg (fun o' => HR D E (o') ++ [⟨51, 0, .l [.i .i64 k, .i .i64 n1, .i .i64 n2, .i .i64 n3, .s m4 v4, .s m5 v5, .s x.1 x.2, .qx 12 kr, .qx 2 lr, .qx 2 fr, .b b, .s rn rv]⟩]) (?_ : (o ++ (ld.take ld.length).map (jC 35)) = (o ++ (ld.map (jC 35) ++ ([] ++ jH (ks.take 0)))))
       rw [List.take_length]; simp [jH]
      ·show ks.length - 0 < LL
       omega
      intro i hi
      refine And.intro (fun hlt => ?_) (fun hge => ?_)
      ·refine And.intro ⟨by omega, by omega⟩ ?_
       intro p hp
       obtain ⟨t', ht', hr⟩ := qK hK (k := i) (by simpa using hp)
       have hr' := hr
       have hw := qL ht'
       have hot := qI oks ht'
       have hrl := qO (ks.take i)
       have hst : o ++ (ld.map (jC 35) ++ ([] ++ jH (ks.take (i + 1)))) = (o ++ (ld.map (jC 35) ++ ([] ++ jH (ks.take i)))) ++ qW t' := by rw [jI ht', yQ]; simp [jH]
       obtain ⟨k', x', ks', ld', ft', tr'⟩ := t'
       simp only [isT] at hr
       obtain ⟨n1', n2', n3', m4', v4', m5', v5', kr', lr', fr', b', rn', rv', rfl, _⟩ := hr
       refine Or.inl ?_
       refine Or.inl ?_
       refine Or.inl ?_
       refine Or.inl ?_
       refine hc51 _ _ _ _ ⟨D, E, _, (.mk k' x' ks' ld' ft' tr'), _, rfl, rfl, hr', hot, ?_, by omega, ?_⟩
       ·simp only [List.length_append, List.length_map, List.length_cons, List.length_nil]; omega
       refine And.intro ⟨by omega, by omega⟩ ?_
       refine Or.inl ?_
       refine ⟨i + 1, ⟨⟨_, rfl, rfl⟩, ⟨_, rfl, rfl⟩, ⟨_, rfl, rfl⟩, ⟨_, rfl, rfl⟩, ⟨_, rfl, rfl⟩, ⟨_, rfl, rfl⟩, trivial⟩, ?_, ?_, ?_⟩
       ·show xH (HR D E (o ++ (ld.map (jC 35) ++ ([] ++ jH (ks.take (i + 1))))) ++ [⟨51, 0, .l [.i .i64 k, .i .i64 n1, .i .i64 n2, .i .i64 n3, .s m4 v4, .s m5 v5, .s x.1 x.2, .qx 12 kr, .qx 2 lr, .qx 2 fr, .b b, .s rn rv]⟩]) _
        rw [hst]
        exact ⟨rfl, rfl, rfl, rfl, trivial⟩
       ·show i + 1 ≤ ks.length; omega
       ·show ks.length - (i + 1) < ks.length - i; omega
      ·obtain rfl : i = ks.length := by omega
       have hrl := qO ks
       refine Or.inl ?_
       refine jN 5 ⟨[1, 2, 3, 60, 61], [], Nat, fun i => [(62, .i .i64 (i : Int))], fun i => HR D E (o ++ (ld.map (jC 35) ++ ([] ++ (jH ks ++ (ft.take i).map (jC 35))))) ++ [⟨51, 0, .l [.i .i64 k, .i .i64 n1, .i .i64 n2, .i .i64 n3, .s m4 v4, .s m5 v5, .s x.1 x.2, .qx 12 kr, .qx 2 lr, .qx 2 fr, .b b, .s rn rv]⟩], fun i => i ≤ ft.length, fun i => ft.length - i, ⟨0, ⟨⟨_, rfl, rfl⟩, ⟨_, rfl, rfl⟩, ⟨_, rfl, rfl⟩, ⟨_, rfl, rfl⟩, ⟨_, rfl, rfl⟩, ⟨_, rfl, rfl⟩, trivial⟩, ?_, Nat.zero_le _, ?_⟩, ?_⟩
       ·refine congrArg (fun o' => HR D E (o') ++ [⟨51, 0, .l [.i .i64 k, .i .i64 n1, .i .i64 n2, .i .i64 n3, .s m4 v4, .s m5 v5, .s x.1 x.2, .qx 12 kr, .qx 2 lr, .qx 2 fr, .b b, .s rn rv]⟩]) (?_ : (o ++ (ld.map (jC 35) ++ ([] ++ jH (ks.take ks.length)))) = (o ++ (ld.map (jC 35) ++ ([] ++ (jH ks ++ (ft.take 0).map (jC 35))))))
        rw [List.take_length]; simp
       ·show ft.length - 0 < LL
        omega
       intro i hi
       refine And.intro (fun hlt => ?_) (fun hge => ?_)
       ·refine And.intro ⟨by omega, by omega⟩ ?_
        intro p hp
        obtain ⟨q, kk, bb, hq, rfl⟩ := qY hF (k := i) (by simpa using hp)
        have hqx := oft q (List.mem_of_getElem? hq)
        unfold okX at hqx
        refine Or.inl ?_
        refine Or.inl ?_
        refine hc24 _ _ _ _ ⟨D, E, _, q, rfl, rfl, ?_, ?_, by omega, ?_⟩
        ·omega
        ·simp only [List.length_append, List.length_map, List.length_take, List.length_cons, List.length_nil]; omega
        have hst : o ++ (ld.map (jC 35) ++ ([] ++ (jH ks ++ (ft.take (i + 1)).map (jC 35)))) = (o ++ (ld.map (jC 35) ++ ([] ++ (jH ks ++ (ft.take i).map (jC 35))))) ++ [jC 35 q] := by rw [jI hq]; simp [jC]
        refine And.intro ⟨by omega, by omega⟩ ?_
        refine Or.inl ?_
        refine ⟨i + 1, ⟨⟨_, rfl, rfl⟩, ⟨_, rfl, rfl⟩, ⟨_, rfl, rfl⟩, ⟨_, rfl, rfl⟩, ⟨_, rfl, rfl⟩, ⟨_, rfl, rfl⟩, trivial⟩, ?_, ?_, ?_⟩
        ·show xH (HR D E (o ++ (ld.map (jC 35) ++ ([] ++ (jH ks ++ (ft.take (i + 1)).map (jC 35))))) ++ [⟨51, 0, .l [.i .i64 k, .i .i64 n1, .i .i64 n2, .i .i64 n3, .s m4 v4, .s m5 v5, .s x.1 x.2, .qx 12 kr, .qx 2 lr, .qx 2 fr, .b b, .s rn rv]⟩]) _
         rw [hst]
         exact ⟨rfl, rfl, rfl, rfl, trivial⟩
        ·show i + 1 ≤ ft.length; omega
        ·show ft.length - (i + 1) < ft.length - i; omega
       ·obtain rfl : i = ft.length := by omega
        refine qM (fun hb => ?_) (fun hb => ?_)
        ·rw [if_pos hb] at htr
         have hrn : rn ≤ 200000000000 := otr _ htr
         refine Or.inl ?_
         refine hc24 _ _ _ _ ⟨D, E, _, (rn, rv), rfl, rfl, ?_, ?_, by omega, ?_⟩
         ·show rn ≤ 300000000000; omega
         ·simp only [List.length_append, List.length_map, List.length_take, List.length_cons, List.length_nil]; omega
         refine fin _ ?_
         rw [List.take_length]; simp [qW, hlf, htr, trT]
        ·rw [if_neg (by simp [hb])] at htr
         refine fin _ ?_
         rw [List.take_length]; simp [qW, hlf, htr, trT]
    ·refine Or.inl ?_
     refine Or.inl ?_
     have hlf : yL k x = [] := by unfold yL; rw [if_neg hk2, if_neg (fun q => hk q.1)]
     refine Or.inl ?_
     refine jN 3 ⟨[1, 2, 3, 48, 49], [], Nat, fun i => [(50, .i .i64 (i : Int))], fun i => HR D E (o ++ (ld.map (jC 35) ++ ([] ++ jH (ks.take i)))) ++ [⟨51, 0, .l [.i .i64 k, .i .i64 n1, .i .i64 n2, .i .i64 n3, .s m4 v4, .s m5 v5, .s x.1 x.2, .qx 12 kr, .qx 2 lr, .qx 2 fr, .b b, .s rn rv]⟩], fun i => i ≤ ks.length, fun i => ks.length - i, ⟨0, ⟨⟨_, rfl, rfl⟩, ⟨_, rfl, rfl⟩, ⟨_, rfl, rfl⟩, ⟨_, rfl, rfl⟩, ⟨_, rfl, rfl⟩, ⟨_, rfl, rfl⟩, trivial⟩, ?_, Nat.zero_le _, ?_⟩, ?_⟩
     ·refine congrArg (fun o' => HR D E (o') ++ [⟨51, 0, .l [.i .i64 k, .i .i64 n1, .i .i64 n2, .i .i64 n3, .s m4 v4, .s m5 v5, .s x.1 x.2, .qx 12 kr, .qx 2 lr, .qx 2 fr, .b b, .s rn rv]⟩]) (?_ : (o ++ (ld.take ld.length).map (jC 35)) = (o ++ (ld.map (jC 35) ++ ([] ++ jH (ks.take 0)))))
      rw [List.take_length]; simp [jH]
     ·show ks.length - 0 < LL
      omega
     intro i hi
     refine And.intro (fun hlt => ?_) (fun hge => ?_)
     ·refine And.intro ⟨by omega, by omega⟩ ?_
      intro p hp
      obtain ⟨t', ht', hr⟩ := qK hK (k := i) (by simpa using hp)
      have hr' := hr
      have hw := qL ht'
      have hot := qI oks ht'
      have hrl := qO (ks.take i)
      have hst : o ++ (ld.map (jC 35) ++ ([] ++ jH (ks.take (i + 1)))) = (o ++ (ld.map (jC 35) ++ ([] ++ jH (ks.take i)))) ++ qW t' := by rw [jI ht', yQ]; simp [jH]
      obtain ⟨k', x', ks', ld', ft', tr'⟩ := t'
      simp only [isT] at hr
      obtain ⟨n1', n2', n3', m4', v4', m5', v5', kr', lr', fr', b', rn', rv', rfl, _⟩ := hr
      refine Or.inl ?_
      refine Or.inl ?_
      refine Or.inl ?_
      refine Or.inl ?_
      refine hc51 _ _ _ _ ⟨D, E, _, (.mk k' x' ks' ld' ft' tr'), _, rfl, rfl, hr', hot, ?_, by omega, ?_⟩
      ·simp only [List.length_append, List.length_map, List.length_cons, List.length_nil]; omega
      refine And.intro ⟨by omega, by omega⟩ ?_
      refine Or.inl ?_
      refine ⟨i + 1, ⟨⟨_, rfl, rfl⟩, ⟨_, rfl, rfl⟩, ⟨_, rfl, rfl⟩, ⟨_, rfl, rfl⟩, ⟨_, rfl, rfl⟩, ⟨_, rfl, rfl⟩, trivial⟩, ?_, ?_, ?_⟩
      ·show xH (HR D E (o ++ (ld.map (jC 35) ++ ([] ++ jH (ks.take (i + 1))))) ++ [⟨51, 0, .l [.i .i64 k, .i .i64 n1, .i .i64 n2, .i .i64 n3, .s m4 v4, .s m5 v5, .s x.1 x.2, .qx 12 kr, .qx 2 lr, .qx 2 fr, .b b, .s rn rv]⟩]) _
       rw [hst]
       exact ⟨rfl, rfl, rfl, rfl, trivial⟩
      ·show i + 1 ≤ ks.length; omega
      ·show ks.length - (i + 1) < ks.length - i; omega
     ·obtain rfl : i = ks.length := by omega
      have hrl := qO ks
      refine Or.inl ?_
      refine jN 5 ⟨[1, 2, 3, 60, 61], [], Nat, fun i => [(62, .i .i64 (i : Int))], fun i => HR D E (o ++ (ld.map (jC 35) ++ ([] ++ (jH ks ++ (ft.take i).map (jC 35))))) ++ [⟨51, 0, .l [.i .i64 k, .i .i64 n1, .i .i64 n2, .i .i64 n3, .s m4 v4, .s m5 v5, .s x.1 x.2, .qx 12 kr, .qx 2 lr, .qx 2 fr, .b b, .s rn rv]⟩], fun i => i ≤ ft.length, fun i => ft.length - i, ⟨0, ⟨⟨_, rfl, rfl⟩, ⟨_, rfl, rfl⟩, ⟨_, rfl, rfl⟩, ⟨_, rfl, rfl⟩, ⟨_, rfl, rfl⟩, ⟨_, rfl, rfl⟩, trivial⟩, ?_, Nat.zero_le _, ?_⟩, ?_⟩
      ·refine congrArg (fun o' => HR D E (o') ++ [⟨51, 0, .l [.i .i64 k, .i .i64 n1, .i .i64 n2, .i .i64 n3, .s m4 v4, .s m5 v5, .s x.1 x.2, .qx 12 kr, .qx 2 lr, .qx 2 fr, .b b, .s rn rv]⟩]) (?_ : (o ++ (ld.map (jC 35) ++ ([] ++ jH (ks.take ks.length)))) = (o ++ (ld.map (jC 35) ++ ([] ++ (jH ks ++ (ft.take 0).map (jC 35))))))
       rw [List.take_length]; simp
      ·show ft.length - 0 < LL
       omega
      intro i hi
      refine And.intro (fun hlt => ?_) (fun hge => ?_)
      ·refine And.intro ⟨by omega, by omega⟩ ?_
       intro p hp
       obtain ⟨q, kk, bb, hq, rfl⟩ := qY hF (k := i) (by simpa using hp)
       have hqx := oft q (List.mem_of_getElem? hq)
       unfold okX at hqx
       refine Or.inl ?_
       refine Or.inl ?_
       refine hc24 _ _ _ _ ⟨D, E, _, q, rfl, rfl, ?_, ?_, by omega, ?_⟩
       ·omega
       ·simp only [List.length_append, List.length_map, List.length_take, List.length_cons, List.length_nil]; omega
       have hst : o ++ (ld.map (jC 35) ++ ([] ++ (jH ks ++ (ft.take (i + 1)).map (jC 35)))) = (o ++ (ld.map (jC 35) ++ ([] ++ (jH ks ++ (ft.take i).map (jC 35))))) ++ [jC 35 q] := by rw [jI hq]; simp [jC]
       refine And.intro ⟨by omega, by omega⟩ ?_
       refine Or.inl ?_
       refine ⟨i + 1, ⟨⟨_, rfl, rfl⟩, ⟨_, rfl, rfl⟩, ⟨_, rfl, rfl⟩, ⟨_, rfl, rfl⟩, ⟨_, rfl, rfl⟩, ⟨_, rfl, rfl⟩, trivial⟩, ?_, ?_, ?_⟩
       ·show xH (HR D E (o ++ (ld.map (jC 35) ++ ([] ++ (jH ks ++ (ft.take (i + 1)).map (jC 35))))) ++ [⟨51, 0, .l [.i .i64 k, .i .i64 n1, .i .i64 n2, .i .i64 n3, .s m4 v4, .s m5 v5, .s x.1 x.2, .qx 12 kr, .qx 2 lr, .qx 2 fr, .b b, .s rn rv]⟩]) _
        rw [hst]
        exact ⟨rfl, rfl, rfl, rfl, trivial⟩
       ·show i + 1 ≤ ft.length; omega
       ·show ft.length - (i + 1) < ft.length - i; omega
      ·obtain rfl : i = ft.length := by omega
       refine qM (fun hb => ?_) (fun hb => ?_)
       ·rw [if_pos hb] at htr
        have hrn : rn ≤ 200000000000 := otr _ htr
        refine Or.inl ?_
        refine hc24 _ _ _ _ ⟨D, E, _, (rn, rv), rfl, rfl, ?_, ?_, by omega, ?_⟩
        ·show rn ≤ 300000000000; omega
        ·simp only [List.length_append, List.length_map, List.length_take, List.length_cons, List.length_nil]; omega
        refine fin _ ?_
        rw [List.take_length]; simp [qW, hlf, htr, trT]
       ·rw [if_neg (by simp [hb])] at htr
        refine fin _ ?_
        rw [List.take_length]; simp [qW, hlf, htr, trT]
end
end
end Go.Proofs.YthfmepmchaofjaaGreat.Ev.Lf
