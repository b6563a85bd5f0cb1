/-
  A region that draws its order leaves, in every order, what the run in the text's order leaves. No program is named here.
-/
import Derived.Test.YtpflpjkbiopmpaaGreatDoorEvH
set_option linter.unusedVariables false
set_option linter.unusedSimpArgs false
set_option linter.unnecessarySimpa false
set_option linter.all false
namespace Go.Proofs.YtpflpjkbiopmpaaGreatDoor.Ev
open Go Go.RowKit

/-! ### Counting -/
def cntL : List O → (Nat → Bool) → Nat → Nat
  | [], _, _ => 0
  | y :: r, f, k => (y.c.acts && f k).toNat + cntL r f (k + 1)
theorem ite_toNat (b : Bool) : (if b = true then 1 else 0) = b.toNat := by cases b <;> rfl
theorem loOf_eq (m : Nat) : ∀ (l : List O) (k : Nat), loOf m l k = cntL l (fun q => bit m q) k
  | [], _ => rfl
  | y :: r, k => by simp only [loOf, cntL, loOf_eq m r, ite_toNat]
theorem hiOf_eq (i : Nat) (full : List Nat) : ∀ (l : List O) (ms : List Nat) (k : Nat), ms = full.drop k → l.length = ms.length → hiOf i l ms = cntL l (fun q => !bit (full.getD q 0) i) k
  | [], ms, k, _, _ => by cases ms <;> rfl
  | y :: r, [], k, _, h => by simp at h
  | y :: r, m :: ms, k, h, hl => by
    have hk : full[k]? = some m := by
      have := congrArg (fun (l : List Nat) => l[0]?) h
      simpa using this.symm
    have hd : ms = full.drop (k + 1) := by
      have := congrArg (fun (l : List Nat) => l.drop 1) h
      simpa [List.drop_drop, Nat.add_comm] using this
    have hm : full.getD k 0 = m := by simp [hk]
    simp only [hiOf, cntL, hiOf_eq i full r ms (k + 1) hd (by simpa using hl), ite_toNat, hm]
theorem cntL_mono {f g : Nat → Bool} : ∀ (l : List O) (k : Nat), (∀ (i : Nat) (y : O), l[i]? = some y → y.c.acts = true → f (k + i) = true → g (k + i) = true) → cntL l f k ≤ cntL l g k
  | [], _, _ => Nat.le_refl _
  | y :: r, k, h => by
    have ih := cntL_mono r (k + 1) fun i z hz ha hf => by
      have := h (i + 1) z (by simpa using hz) ha (by rw [show k + (i + 1) = k + 1 + i from by omega]; exact hf)
      rwa [show k + (i + 1) = k + 1 + i from by omega] at this
    have h0 := h 0 y rfl
    simp only [Nat.add_zero] at h0
    simp only [cntL]
    have : (y.c.acts && f k).toNat ≤ (y.c.acts && g k).toNat := by
      cases ha : y.c.acts
      · simp
      · cases hf : f k
        · simp
        · simp [h0 ha hf]
    omega
theorem cntL_congr {f g : Nat → Bool} (l : List O) (k : Nat) (h : ∀ (i : Nat) (y : O), l[i]? = some y → y.c.acts = true → f (k + i) = g (k + i)) : cntL l f k = cntL l g k :=
  Nat.le_antisymm (cntL_mono l k fun i y hy ha hf => by rw [← h i y hy ha]; exact hf) (cntL_mono l k fun i y hy ha hf => by rw [h i y hy ha]; exact hf)
theorem cntL_add {f : Nat → Bool} : ∀ (l : List O) (k i : Nat) (o : O), l[i]? = some o → f (k + i) = false → cntL l (fun q => f q || q == k + i) k = cntL l f k + o.c.acts.toNat
  | [], k, i, o, h, _ => by simp at h
  | y :: r, k, 0, o, h, hf => by
    simp at h
    subst h
    simp only [Nat.add_zero] at hf ⊢
    have : cntL r (fun q => f q || q == k) (k + 1) = cntL r f (k + 1) := cntL_congr r (k + 1) fun i z hz ha => by
      have : (k + 1 + i == k) = false := by simp; omega
      rw [this, Bool.or_false]
    simp only [cntL, this, hf]
    cases ha : y.c.acts <;> simp
    omega
  | y :: r, k, i + 1, o, h, hf => by
    have ih := cntL_add (f := f) r (k + 1) i o (by simpa using h) (by rw [show k + 1 + i = k + (i + 1) from by omega]; exact hf)
    rw [show k + (i + 1) = k + 1 + i from by omega]
    have : (k == k + 1 + i) = false := by simp; omega
    simp only [cntL, this, Bool.or_false, ih]
    omega

/-! ### The masks -/
theorem foldl_bits (acc : List Nat) : ∀ (l : List Edge) (s p : Nat), Nat.testBit (l.foldl (fun s e => if Region.binds .any e then s ||| 2 ^ e.on ||| acc.getD e.on 0 else s) s) p = true →
    Nat.testBit s p = true ∨ ∃ e ∈ l, Region.binds .any e = true ∧ (p = e.on ∨ Nat.testBit (acc.getD e.on 0) p = true)
  | [], s, p, h => .inl h
  | e :: l, s, p, h => by
    simp only [List.foldl_cons] at h
    rcases foldl_bits acc l _ p h with h1 | ⟨e', he, r⟩
    · split at h1
      · rename_i hb
        rw [Nat.testBit_or, Nat.testBit_or, Bool.or_eq_true, Bool.or_eq_true] at h1
        rcases h1 with (h1 | h1) | h1
        · exact .inl h1
        · refine .inr ⟨e, by simp, hb, .inl ?_⟩
          rw [Nat.testBit_two_pow] at h1
          have : e.on = p := by simpa using h1
          exact this.symm
        · exact .inr ⟨e, by simp, hb, .inr h1⟩
      · exact .inl h1
    · exact .inr ⟨e', by simp [he], r⟩
theorem masks_pre : ∀ (l : List Oper) (acc : List Nat), ∃ ext, masks l acc = acc ++ ext ∧ ext.length = l.length
  | [], acc => ⟨[], by simp [masks], rfl⟩
  | o :: r, acc => by
    obtain ⟨ext, h1, h2⟩ := masks_pre r (acc ++ [o.after.toList.foldl (fun s e => if Region.binds .any e then s ||| 2 ^ e.on ||| acc.getD e.on 0 else s) 0])
    exact ⟨_ :: ext, by rw [masks, h1, List.append_assoc]; rfl, by simp [h2]⟩
theorem masks_ok : ∀ (l : List Oper) (acc : List Nat) (i : Nat) (o : Oper) (m : Nat), l[i]? = some o → (masks l acc)[acc.length + i]? = some m → ∀ p, Nat.testBit m p = true →
    ∃ e ∈ o.after.toList, Region.binds .any e = true ∧ (p = e.on ∨ ∃ m', (masks l acc)[e.on]? = some m' ∧ Nat.testBit m' p = true)
  | [], acc, i, o, m, h, _ => by simp at h
  | o :: r, acc, 0, o', m, h, hm => by
    simp at h
    subst h
    intro p hp
    obtain ⟨ext, h1, h2⟩ := masks_pre r (acc ++ [o.after.toList.foldl (fun s e => if Region.binds .any e then s ||| 2 ^ e.on ||| acc.getD e.on 0 else s) 0])
    have hmask : masks (o :: r) acc = acc ++ (o.after.toList.foldl (fun s e => if Region.binds .any e then s ||| 2 ^ e.on ||| acc.getD e.on 0 else s) 0 :: ext) := by rw [masks, h1, List.append_assoc]; rfl
    rw [hmask] at hm
    rw [List.getElem?_append_right (by omega), show acc.length + 0 - acc.length = 0 from by omega] at hm
    simp only [List.getElem?_cons_zero, Option.some.injEq] at hm
    subst hm
    rcases foldl_bits acc _ 0 p hp with h0 | ⟨e, he, hb, h3⟩
    · simp at h0
    · refine ⟨e, he, hb, ?_⟩
      rcases h3 with h3 | h3
      · exact .inl h3
      · right
        rcases Nat.lt_or_ge e.on acc.length with hlt | hge
        · refine ⟨acc[e.on], ?_, ?_⟩
          · rw [hmask, List.getElem?_append_left hlt]; exact List.getElem?_eq_getElem hlt
          · simpa [List.getElem?_eq_getElem hlt] using h3
        · simp [List.getElem?_eq_none hge] at h3
  | o :: r, acc, i + 1, o', m, h, hm => by
    have := masks_ok r (acc ++ [o.after.toList.foldl (fun s e => if Region.binds .any e then s ||| 2 ^ e.on ||| acc.getD e.on 0 else s) 0]) i o' m (by simpa using h)
    rw [masks] at hm ⊢
    refine this ?_
    simp only [List.length_append, List.length_cons, List.length_nil]
    rw [show acc.length + (0 + 1) + i = acc.length + (i + 1) from by omega]
    exact hm
theorem edges_ok : ∀ (l : List Oper) (k : Nat), edgesOk l k = true → ∀ (i : Nat) (o : Oper), l[i]? = some o → ∀ e ∈ o.after.toList, Region.binds .any e = true → e.on < k + i
  | [], k, _, i, o, h => by simp at h
  | o :: r, k, hk, i, o', h => by
    simp only [edgesOk, Bool.and_eq_true, List.all_eq_true] at hk
    cases i with
    | zero =>
      simp at h
      subst h
      intro e he hb
      have := hk.1 e he
      simpa [hb] using this
    | succ i =>
      intro e he hb
      have := edges_ok r (k + 1) hk.2 i o' (by simpa using h) e he hb
      omega
theorem ahead_ok (x : O) (m : Nat) : ∀ (l : List O) (k : Nat), aheadOk x m l k = true → ∀ (i : Nat) (y : O), l[i]? = some y → pairOk y x (bit m (k + i)) = true
  | [], k, _, i, y, h => by simp at h
  | z :: r, k, hk, i, y, h => by
    simp only [aheadOk, Bool.and_eq_true] at hk
    cases i with
    | zero => simp at h; subst h; exact hk.1
    | succ i =>
      have := ahead_ok x m r (k + 1) hk.2 i y (by simpa using h)
      rwa [show k + 1 + i = k + (i + 1) from by omega] at this
theorem allAhead_ok : ∀ (l seen : List O) (ms : List Nat), allAhead seen l ms = true → l.length = ms.length ∧
    ∀ (i' : Nat) (x : O) (m : Nat), l[i']? = some x → ms[i']? = some m → ∀ (i : Nat) (y : O), i < seen.length + i' → (seen ++ l)[i]? = some y → pairOk y x (bit m i) = true
  | [], seen, [], _ => ⟨rfl, fun i' x m h => by simp at h⟩
  | [], seen, m :: ms, h => by simp [allAhead] at h
  | x :: r, seen, [], h => by simp [allAhead] at h
  | x :: r, seen, m :: ms, h => by
    simp only [allAhead, Bool.and_eq_true] at h
    obtain ⟨h1, h2⟩ := allAhead_ok r (seen ++ [x]) ms h.2
    refine ⟨by simp [h1], fun i' x' m' hx hm i y hi hy => ?_⟩
    cases i' with
    | zero =>
      simp at hx hm
      subst hx; subst hm
      rw [List.getElem?_append_left (by omega)] at hy
      have := ahead_ok x m seen 0 h.1 i y hy
      rwa [Nat.zero_add] at this
    | succ i' =>
      refine h2 i' x' m' (by simpa using hx) (by simpa using hm) i y (by simp; omega) ?_
      rw [List.append_assoc]; exact hy
theorem withRd_nth (all : List O) (ms0 : List Nat) : ∀ (l : List O) (ms : List Nat) (k : Nat), l.length = ms.length → (withRd all ms0 l ms k).length = l.length ∧
    ∀ (i : Nat) (x : O), l[i]? = some x → ∃ m, ms[i]? = some m ∧ (withRd all ms0 l ms k)[i]? = some (if x.c.reads then { x with rd := some (loOf m all 0, hiOf (k + i) all ms0) } else x)
  | [], ms, k, _ => ⟨by cases ms <;> rfl, fun i x h => by simp at h⟩
  | x :: r, [], k, h => by simp at h
  | x :: r, m :: ms, k, h => by
    obtain ⟨h1, h2⟩ := withRd_nth all ms0 r ms (k + 1) (by simpa using h)
    refine ⟨by simp [withRd, h1], fun i y hy => ?_⟩
    cases i with
    | zero => simp at hy; subst hy; exact ⟨m, rfl, by simp [withRd]⟩
    | succ i =>
      obtain ⟨m', a1, a2⟩ := h2 i y (by simpa using hy)
      refine ⟨m', by simpa using a1, ?_⟩
      simp only [withRd, List.getElem?_cons_succ, a2, show k + 1 + i = k + (i + 1) from by omega]

/-! ### The chain's steps -/
def StepAt (call : CallA) (S : Nat → Mem) (N : Nat) (o : O) (τ : T) (k : Nat) (v : AV) : Prop :=
  (wantA o.g τ = some true ∧ ((o.c.acts = true ∧ execA call o.c τ (S k) = some (v, S (k + 1))) ∨ (o.c.acts = false ∧ (∃ σ, execA call o.c τ (S k) = some (v, σ)) ∧ ∀ lo hi, o.rd = some (lo, hi) → ∀ m, lo ≤ m → m ≤ hi → m ≤ N → pureA o.c τ (S m) = some v))) ∨
  (wantA o.g τ = some false ∧ v = undefA ∧ (o.c.acts = true → S (k + 1) = S k))
def shift {α : Type} (x : α) (f : Nat → α) : Nat → α
  | 0 => x
  | n + 1 => f n
theorem lex_fun {call : CallA} {S : Nat → Mem} {N : Nat} {l : List O} {τ τ' : T} {k k' : Nat} (h : Lex call S N l τ k τ' k') :
    ∃ (τs : Nat → T) (vs : Nat → AV) (ks : Nat → Nat), τs 0 = τ ∧ ks 0 = k ∧ τs l.length = τ' ∧ ks l.length = k' ∧
      ∀ (i : Nat) (o : O), l[i]? = some o → τs (i + 1) = putA (τs i) o.d (vs i) ∧ ks (i + 1) = ks i + o.c.acts.toNat ∧ StepAt call S N o (τs i) (ks i) (vs i) := by
  induction h with
  | @nil τ k => exact ⟨fun _ => τ, fun _ => undefA, fun _ => k, rfl, rfl, rfl, rfl, fun i o h => by simp at h⟩
  | @act o r τ τ' k k' v hw hx ha hr ih =>
    obtain ⟨τs, vs, ks, h1, h2, h3, h4, h5⟩ := ih
    refine ⟨shift τ τs, shift v vs, shift k ks, rfl, rfl, h3, h4, fun i o' ho => ?_⟩
    cases i with
    | zero => simp at ho; subst ho; exact ⟨h1, by simp [shift, h2, ha], .inl ⟨hw, .inl ⟨ha, hx⟩⟩⟩
    | succ i => exact h5 i o' (by simpa using ho)
  | @still o r τ τ' k k' v σ hw hx ha hs hr ih =>
    obtain ⟨τs, vs, ks, h1, h2, h3, h4, h5⟩ := ih
    refine ⟨shift τ τs, shift v vs, shift k ks, rfl, rfl, h3, h4, fun i o' ho => ?_⟩
    cases i with
    | zero => simp at ho; subst ho; exact ⟨h1, by simp [shift, h2, ha], .inl ⟨hw, .inr ⟨ha, ⟨σ, hx⟩, hs⟩⟩⟩
    | succ i => exact h5 i o' (by simpa using ho)
  | @offAct o r τ τ' k k' hw ha hS hr ih =>
    obtain ⟨τs, vs, ks, h1, h2, h3, h4, h5⟩ := ih
    refine ⟨shift τ τs, shift undefA vs, shift k ks, rfl, rfl, h3, h4, fun i o' ho => ?_⟩
    cases i with
    | zero => simp at ho; subst ho; exact ⟨h1, by simp [shift, h2, ha], .inr ⟨hw, rfl, fun _ => hS⟩⟩
    | succ i => exact h5 i o' (by simpa using ho)
  | @off o r τ τ' k k' hw ha hr ih =>
    obtain ⟨τs, vs, ks, h1, h2, h3, h4, h5⟩ := ih
    refine ⟨shift τ τs, shift undefA vs, shift k ks, rfl, rfl, h3, h4, fun i o' ho => ?_⟩
    cases i with
    | zero => simp at ho; subst ho; exact ⟨h1, by simp [shift, h2, ha], .inr ⟨hw, rfl, fun h => by rw [ha] at h; cases h⟩⟩
    | succ i => exact h5 i o' (by simpa using ho)
theorem ev_put {τ : T} {d : Option Nat} {nt : Nat} (hd : dstOk nt d = true) (v : AV) (t : Nat) : (X.t t).ev (putA τ d v) = if d = some t then v else (X.t t).ev τ := by
  cases d with
  | none => simp [putA]
  | some d =>
    simp only [dstOk, Bool.and_eq_true, Nat.blt_eq] at hd
    simp only [X.ev, putA, Tr.get_set30 _ _ _ _ (by omega : d ≤ 1000000000)]
    by_cases e : t = d
    · subst e; simp
    · rw [if_neg e, if_neg (fun h => e (by cases h; rfl))]
/-- a table of a function. -/
def tabT (f : Nat → AV) : Nat → T
  | 0 => .e
  | n + 1 => Tr.set 30 (tabT f n) n (some (f n))
theorem tabT_get (f : Nat → AV) : ∀ (n : Nat), n ≤ 1000000000 → ∀ t, (tabT f n).get t = if t < n then some (f t) else none
  | 0, _, t => by rw [tabT, Tr.get_e]; simp
  | n + 1, h, t => by
    rw [tabT, Tr.get_set30 _ _ _ _ (by omega), tabT_get f n (by omega)]
    by_cases e : t = n
    · subst e; simp
    · rw [if_neg e]
      by_cases e2 : t < n
      · rw [if_pos e2, if_pos (by omega)]
      · rw [if_neg e2, if_neg (by omega)]
end Go.Proofs.YtpflpjkbiopmpaaGreatDoor.Ev
