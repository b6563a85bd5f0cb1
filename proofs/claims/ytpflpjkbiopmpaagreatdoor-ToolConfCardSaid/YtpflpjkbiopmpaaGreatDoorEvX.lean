/-
  The first place of a text in a text, reckoned by numbers. No program is named here.
-/
import Derived.Test.YtpflpjkbiopmpaaGreatDoorEvY
import Derived.Lib.Index
set_option linter.unusedVariables false
set_option linter.unusedSimpArgs false
set_option linter.unnecessarySimpa false
set_option linter.all false
namespace Go.Proofs.YtpflpjkbiopmpaaGreatDoor.Ev
open Go Go.RowKit

def preL : List Nat → List Nat → Bool
  | [], _ => true
  | _ :: _, [] => false
  | a :: p, b :: l => Nat.beq a b && preL p l
def idxS (p : List Nat) : List Nat → Nat → Int
  | [], k => if preL p [] then .ofNat k else .negSucc 0
  | b :: l, k => if preL p (b :: l) then .ofNat k else idxS p l (Nat.add k 1)
def idxV (n v m u : Nat) : AV := forceI (idxS (decL m u) (decL n v) 0) fun i => .i .i64 i
theorem preL_map : ∀ (p l : List UInt8), preL (p.map UInt8.toNat) (l.map UInt8.toNat) = p.isPrefixOf l
  | [], l => by cases l <;> rfl
  | a :: p, [] => rfl
  | a :: p, b :: l => by
    have e : Nat.beq a.toNat b.toNat = (a == b) := by rw [Bool.eq_iff_iff, Nat.beq_eq, beq_iff_eq]; exact UInt8.toNat_inj
    simp only [List.map_cons, preL, List.isPrefixOf, preL_map p l, e]
theorem idxS_map (p : List UInt8) : ∀ (l : List UInt8) (k : Nat), idxS (p.map UInt8.toNat) (l.map UInt8.toNat) k = if Lib.index l p = -1 then -1 else Lib.index l p + k
  | [], k => by
    have := preL_map p []
    simp only [List.map_nil] at this
    simp only [List.map_nil, idxS, this, Lib.index]
    cases p with
    | nil => simp
    | cons a r => simp [List.isPrefixOf]
  | b :: l, k => by
    have h1 := preL_map p (b :: l)
    simp only [List.map_cons] at h1
    by_cases hp : p.isPrefixOf (b :: l) = true
    · have e : Lib.index (b :: l) p = 0 := by unfold Lib.index; rw [if_pos hp]
      rw [e]
      simp only [List.map_cons, idxS, h1, hp, if_true]
      simp
    · have hp' : p.isPrefixOf (b :: l) = false := Bool.eq_false_iff.mpr hp
      have ih := idxS_map p l (Nat.add k 1)
      have hge := Lib.index_ge l p
      by_cases hm : Lib.index l p = -1
      · have e : Lib.index (b :: l) p = -1 := by unfold Lib.index; rw [if_neg hp, if_pos (by simpa using hm)]
        rw [e]
        simp only [List.map_cons, idxS, h1, hp', ih, hm]
        simp
      · have e : Lib.index (b :: l) p = Lib.index l p + 1 := by
          have : ¬ (Lib.index l p == -1) = true := by simpa using hm
          conv => lhs; unfold Lib.index
          rw [if_neg hp, if_neg this]
        rw [e]
        simp only [List.map_cons, idxS, h1, hp', ih, if_neg hm, Bool.false_eq_true, if_false]
        rw [if_neg (by omega)]
        show Lib.index l p + ((k + 1 : Nat) : Int) = _
        omega
theorem idxV_eq (s sub : ByteArray) : idxV s.size (encL s.data.toList) sub.size (encL sub.data.toList) = .i .i64 (Lib.index s.data.toList sub.data.toList) := by
  unfold idxV
  rw [forceI_eq]
  have e1 : s.size = s.data.toList.length := by simp
  have e2 : sub.size = sub.data.toList.length := by simp
  rw [e1, e2, decL_enc, decL_enc, idxS_map]
  congr 1
  split
  · rename_i h; exact h.symm
  · simp
/-! ### .. and in a text of bytes of which only bounds are known -/
def preM : List AV → List AV → Option Bool
  | [], _ => some true
  | _ :: _, [] => some false
  | a :: p, b :: l => match cmpE a b with
    | some false => some false
    | some true => preM p l
    | none => match preM p l with | some false => some false | _ => none
def idxSM (p : List AV) : List AV → Nat → Option Int
  | [], k => (match preM p [] with | some true => some (.ofNat k) | some false => some (.negSucc 0) | none => none)
  | b :: l, k => (match preM p (b :: l) with | some true => some (.ofNat k) | some false => idxSM p l (Nat.add k 1) | none => none)
def idxMV (l : List AV) (m u : Nat) : Option AV := if Nat.ble (lenL l 0) 1000000 then (match idxSM (u8s (decL m u)) l 0 with | some k => forceI k fun k => some (.i .i64 k) | none => none) else none
section
variable {μ : Mu} {j : J}
theorem preM_ok : ∀ {p l : List AV} {r : Bool} {ps bs : List UInt8}, preM p l = some r → RL μ j p (ps.map fun b => Value.int .u8 b.toNat) → RL μ j l (bs.map fun b => Value.int .u8 b.toNat) → ps.isPrefixOf bs = r
  | [], l, r, ps, bs, h, h1, h2 => by
    have e1 : ps = [] := by simpa using (show (ps.map fun b => Value.int .u8 b.toNat) = [] from h1)
    cases h
    rw [e1]; cases bs <;> rfl
  | a :: p, [], r, ps, bs, h, h1, h2 => by
    have e2 : bs = [] := by simpa using (show (bs.map fun b => Value.int .u8 b.toNat) = [] from h2)
    cases h
    obtain ⟨v, t, e1, hv, ht⟩ := h1
    cases ps with
    | nil => cases e1
    | cons x ps => rw [e2]; rfl
  | a :: p, b :: l, r, ps, bs, h, h1, h2 => by
    obtain ⟨v, t, e1, hv, ht⟩ := h1
    obtain ⟨v2, t2, e2, hv2, ht2⟩ := h2
    cases ps with
    | nil => cases e1
    | cons x ps =>
      cases bs with
      | nil => cases e2
      | cons y bs =>
        simp only [List.map_cons, List.cons.injEq] at e1 e2
        obtain ⟨rfl, rfl⟩ := e1
        obtain ⟨rfl, rfl⟩ := e2
        simp only [preM] at h
        simp only [List.isPrefixOf]
        split at h
        · rename_i hm
          cases h
          rw [cmpE_ok hm hv hv2]; rfl
        · rename_i hm
          rw [cmpE_ok hm hv hv2, preM_ok h ht ht2]; rfl
        · split at h
          · rename_i hm
            cases h
            rw [preM_ok hm ht ht2]; simp
          · cases h
theorem idxSM_ok {p : List AV} {ps : List UInt8} (hp : RL μ j p (ps.map fun b => Value.int .u8 b.toNat)) : ∀ {l : List AV} {k : Nat} {r : Int} {bs : List UInt8}, idxSM p l k = some r → RL μ j l (bs.map fun b => Value.int .u8 b.toNat) → r = if Lib.index bs ps = -1 then -1 else Lib.index bs ps + k
  | [], k, r, bs, h, h2 => by
    have e2 : bs = [] := by simpa using (show (bs.map fun b => Value.int .u8 b.toNat) = [] from h2)
    simp only [idxSM] at h
    rw [e2]
    split at h
    · rename_i hm
      cases h
      have e := preM_ok (bs := []) hm hp rfl
      cases ps with
      | nil => simp [Lib.index]
      | cons a q => cases e
    · rename_i hm
      cases h
      have e := preM_ok (bs := []) hm hp rfl
      cases ps with
      | nil => cases e
      | cons a q => simp [Lib.index]
    · cases h
  | b :: l, k, r, bs, h, h2 => by
    have h2' := h2
    obtain ⟨v2, t2, e2, hv2, ht2⟩ := h2
    cases bs with
    | nil => cases e2
    | cons y bs =>
      simp only [List.map_cons, List.cons.injEq] at e2
      obtain ⟨rfl, rfl⟩ := e2
      simp only [idxSM] at h
      split at h
      · rename_i hm
        cases h
        have e := preM_ok (bs := y :: bs) hm hp h2'
        have e' : Lib.index (y :: bs) ps = 0 := by unfold Lib.index; rw [if_pos e]
        rw [e']; simp
      · rename_i hm
        have e := preM_ok (bs := y :: bs) hm hp h2'
        have ih := idxSM_ok hp h ht2
        have hge := Lib.index_ge bs ps
        have hp' : ¬ ps.isPrefixOf (y :: bs) = true := by rw [e]; decide
        by_cases hm : Lib.index bs ps = -1
        · have e' : Lib.index (y :: bs) ps = -1 := by unfold Lib.index; rw [if_neg hp', if_pos (by simpa using hm)]
          rw [e', ih, hm]; simp
        · have e' : Lib.index (y :: bs) ps = Lib.index bs ps + 1 := by
            have : ¬ (Lib.index bs ps == -1) = true := by simpa using hm
            conv => lhs; unfold Lib.index
            rw [if_neg hp', if_neg this]
          rw [e', ih, if_neg hm, if_neg (by omega)]
          show Lib.index bs ps + ((k + 1 : Nat) : Int) = _
          omega
      · cases h
theorem idxMV_ok {l : List AV} {s sub : ByteArray} {x : AV} (hl : RL μ j l (s.data.toList.map fun b => Value.int .u8 b.toNat)) (h : idxMV l sub.size (encL sub.data.toList) = some x) : s.size ≤ 1000000 ∧ x = .i .i64 (Lib.index s.data.toList sub.data.toList) := by
  unfold idxMV at h
  split at h
  · rename_i hle
    have hlen : lenL l 0 = s.size := by
      rw [lenL_eq]; have := RL.len _ _ hl; simp only [List.length_map] at this; rw [Nat.add_zero, ← this]; simp
    refine ⟨by rw [← hlen]; simpa using hle, ?_⟩
    have e2 : sub.size = sub.data.toList.length := by simp
    rw [e2, decL_enc] at h
    split at h
    · rename_i k hk
      rw [forceI_eq] at h
      cases h
      have := idxSM_ok (u8s_ok _) hk hl
      rw [this]
      congr 1
      split
      · rename_i h; exact h.symm
      · simp
    · cases h
  · cases h
end
/-- a cell of a block is the block's. -/
theorem cell_of_held {w W : World} {g : Nat} {o : Obj} (h : W.heap[g]? = some o) (h' : w.heap[g]? = some o) (off : Nat) : w.cell? ⟨g, off, none⟩ = W.cell? ⟨g, off, none⟩ := by
  simp only [World.cell?, h, h']
/-- what some variables hold, held. -/
def Mu.with (f : Nat → Value) (gs : List Nat) (W : World) : Mu := ⟨f, fun b o => b ∈ gs ∧ W.heap[b]? = some o⟩
theorem Held.with {f : Nat → Value} {gs : List Nat} {W : World} : Held (.with f gs W) W := fun b o h => h.2
theorem Held.cell {f : Nat → Value} {gs : List Nat} {W w : World} (h : Held (.with f gs W) w) {g : Nat} (hg : g ∈ gs) {v : Value} {off : Nat} (hv : W.cell? ⟨g, off, none⟩ = some v) : w.cell? ⟨g, off, none⟩ = some v := by
  have : ∃ o, W.heap[g]? = some o := by
    cases hh : W.heap[g]? with
    | none => simp [World.cell?, hh] at hv
    | some o => exact ⟨o, rfl⟩
  obtain ⟨o, ho⟩ := this
  rw [cell_of_held ho (h g o ⟨hg, ho⟩)]; exact hv
end Go.Proofs.YtpflpjkbiopmpaaGreatDoor.Ev
