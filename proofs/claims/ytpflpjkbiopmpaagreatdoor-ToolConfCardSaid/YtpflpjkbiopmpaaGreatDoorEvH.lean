/-
  Regions that draw their order: one run in the text's order serves every order. No program is named here.
-/
import Derived.Test.YtpflpjkbiopmpaaGreatDoorEvG
import Derived.Orders
set_option linter.unusedVariables false
set_option linter.unusedSimpArgs false
set_option linter.unnecessarySimpa false
set_option linter.all false
namespace Go.Proofs.YtpflpjkbiopmpaaGreatDoor.Ev
open Go Go.RowKit

/-! ### What an operation looks at -/
theorem evs_congr {τ τ' : T} : ∀ {l : List X}, (∀ t ∈ tms l, (X.t t).ev τ = (X.t t).ev τ') → evs τ l = evs τ' l
  | [], _ => rfl
  | x :: r, h => by
    have h1 : x.ev τ = x.ev τ' := by
      cases x with
      | t n => exact h n (by simp [tms, X.tm])
      | k v => rfl
    simp only [evs, h1]
    rw [evs_congr (l := r) fun t ht => h t (by simp only [tms, List.mem_append]; exact .inr ht)]
theorem ev_congr {τ τ' : T} {x : X} (h : ∀ t ∈ x.tm, (X.t t).ev τ = (X.t t).ev τ') : x.ev τ = x.ev τ' := by
  cases x with
  | t n => exact h n (by simp [X.tm])
  | k v => rfl
theorem mem_tms {x : X} {l : List X} (h : x ∈ l) {t : Nat} (ht : t ∈ x.tm) : t ∈ tms l := by
  induction l with
  | nil => simp at h
  | cons y r ih =>
    simp only [tms, List.mem_append]
    rcases List.mem_cons.1 h with rfl | h
    · exact .inl ht
    · exact .inr (ih h)
theorem fill_congr {τ τ' : T} : ∀ {ps : List (Nat × Nat × X)} {z : List AV}, (∀ t ∈ tms (ps.map (·.2.2)), (X.t t).ev τ = (X.t t).ev τ') → fillA τ ps z = fillA τ' ps z
  | [], z, _ => rfl
  | (off, n, x) :: r, z, h => by
    have h1 : x.ev τ = x.ev τ' := ev_congr fun t ht => h t (by simp [tms, ht])
    simp only [fillA, h1]
    split
    · split
      · exact fill_congr fun t ht => h t (by simp only [List.map_cons, tms, List.mem_append]; exact .inr ht)
      · rfl
    · rfl
theorem evO_congr {τ τ' : T} {x : Option X} (h : ∀ t ∈ tms (xo x), (X.t t).ev τ = (X.t t).ev τ') : X.evO τ x = X.evO τ' x := by
  cases x with
  | none => rfl
  | some x => simp only [X.evO]; rw [ev_congr fun t ht => h t (by simp [xo, tms, ht])]
theorem exec_congr {call : CallA} {c : C} {τ τ' : T} {σ : Mem} (h : ∀ t ∈ tms c.xs, (X.t t).ev τ = (X.t t).ev τ') : execA call c τ σ = execA call c τ' σ := by
  have m : ∀ x ∈ c.xs, x.ev τ = x.ev τ' := fun x hx => ev_congr fun t ht => h t (mem_tms hx ht)
  cases c <;> simp only [C.xs] at h m <;> simp only [execA, pureA, xPick, xBd, xLd, xNc, xBe, xCi, xBt, xCs, xSs, xSl, xFa, xFd, xIa, xIq, xIx, xIv, xEx, xLn, xLm, xMx, xMn, xPe, xIe, xPu, xPf, xSd, xSe, xXi, xXc, xCn, xIs, xCy, xTa, xAz, xLk, xTk, eSt, eSb]
  case bd => rw [fill_congr h]
  case bs => rw [fill_congr h]
  case mf f a b =>
    rw [evs_congr (l := a) fun t ht => h t (by
      have : tms (a ++ b) = tms a ++ tms b := by
        clear h m ht
        induction a with
        | nil => rfl
        | cons x r ih => simp [tms, ih]
      rw [this]; simp [ht]), evs_congr (l := b) fun t ht => h t (by
      have : tms (a ++ b) = tms a ++ tms b := by
        clear h m ht
        induction a with
        | nil => rfl
        | cons x r ih => simp [tms, ih]
      rw [this]; simp [ht])]
  case cf => rw [evs_congr h]
  case cp => rw [evs_congr h]
  case cq => rw [evs_congr h]
  case cv x xs => rw [m x (by simp), evs_congr fun t ht => h t (by simp [tms, ht])]
  case ik tbl x xs => rw [m x (by simp), evs_congr fun t ht => h t (by simp [tms, ht])]
  case ss x lo hi =>
    rw [m x (by simp)]
    have e1 : X.evO τ lo = X.evO τ' lo := evO_congr fun t ht => h t (by cases lo <;> cases hi <;> simp_all [xo, tms])
    have e2 : X.evO τ hi = X.evO τ' hi := evO_congr fun t ht => h t (by cases lo <;> cases hi <;> simp_all [xo, tms])
    rw [e1, e2]
  case sl sz x lo hi =>
    rw [m x (by simp)]
    have e1 : X.evO τ lo = X.evO τ' lo := evO_congr fun t ht => h t (by cases lo <;> cases hi <;> simp_all [xo, tms])
    have e2 : X.evO τ hi = X.evO τ' hi := evO_congr fun t ht => h t (by cases lo <;> cases hi <;> simp_all [xo, tms])
    rw [e1, e2]
  all_goals (try simp only [List.mem_cons, List.not_mem_nil, or_false, forall_eq_or_imp, forall_eq] at m)
  all_goals (first | (simp only [m]; done) | (rw [m]; done) | (simp only [m.1, m.2]; done) | (simp only [m.1, m.2.1, m.2.2]; done) | rfl)
theorem want_congr {g : Option (Nat × Bool)} {τ τ' : T} (h : ∀ t ∈ gtm g, (X.t t).ev τ = (X.t t).ev τ') : wantA g τ = wantA g τ' := by
  cases g with
  | none => rfl
  | some p =>
    obtain ⟨t, w⟩ := p
    simp only [wantA, h t (by simp [gtm])]
/-- an operation that neither writes nor reads memory. -/
theorem exec_any {call : CallA} {c : C} {τ : T} {σ : Mem} {x : AV} {σ' : Mem} (h : execA call c τ σ = some (x, σ')) (h1 : c.acts = false) (h2 : c.reads = false) : σ' = σ ∧ ∀ σ2, execA call c τ σ2 = some (x, σ2) := by
  have pure_ : ∀ {v : Option AV}, eP σ v = some (x, σ') → σ' = σ ∧ v = some x := by
    intro v hv
    unfold eP at hv
    split at hv <;> cases hv
    exact ⟨rfl, rfl⟩
  cases c <;> simp only [C.acts, C.reads] at h1 h2 <;> (try cases h1) <;> (try cases h2) <;> simp only [execA] at h ⊢
  case cp f xs =>
    unfold eCp at h ⊢
    split at h
    · rename_i hf
      split at h
      · rename_i v s hv
        split at h <;> cases h
        rename_i hvf
        refine ⟨rfl, fun σ2 => ?_⟩
        rw [if_pos hf]
        first | (simp only [hv]; rw [if_pos hvf]) | rw [if_pos hvf]
      · cases h
    · cases h
  case cq f xs =>
    unfold eCq at h ⊢
    split at h
    · rename_i hf
      unfold eCqR at h
      split at h
      · rename_i v s hv
        split at h <;> cases h
        rename_i hin
        refine ⟨rfl, fun σ2 => ?_⟩
        rw [if_pos hf]
        unfold eCqR
        first | (simp only [hv]; rw [if_pos hin]) | rw [if_pos hin]
      · cases h
    · cases h
  all_goals
    obtain ⟨rfl, hv⟩ := pure_ h
    exact ⟨rfl, fun σ2 => by simp only [pureA] at hv ⊢; rw [hv]; rfl⟩
theorem exec_reads {call : CallA} {c : C} {τ : T} {σ : Mem} {x : AV} {σ' : Mem} (h : execA call c τ σ = some (x, σ')) (h2 : c.reads = true) : σ' = σ ∧ ∀ σ2, pureA c τ σ2 = some x → execA call c τ σ2 = some (x, σ2) := by
  cases c <;> simp only [C.reads] at h2 <;> (try cases h2) <;> simp only [execA] at h ⊢
  all_goals
    unfold eP at h
    split at h <;> cases h
    exact ⟨rfl, fun σ2 h3 => by rw [h3]; rfl⟩
mutual
theorem beq_eq : ∀ (x y : AV), AV.beq x y = true → x = y
  | .b x, y, h => by
    cases y <;> simp only [AV.beq] at h <;> try cases h
    rename_i z; rw [show x = z by simpa using h]
  | .i k n, y, h => by
    cases y <;> simp only [AV.beq] at h <;> try cases h
    simp only [Bool.and_eq_true] at h
    rw [eqK_eq h.1, eqI_iff.1 h.2]
  | .s l v, y, h => by
    cases y <;> simp only [AV.beq] at h <;> try cases h
    simp only [Bool.and_eq_true, Nat.beq_eq] at h
    rw [h.1, h.2]
  | .p0, y, h => by cases y <;> simp only [AV.beq] at h <;> first | rfl | cases h
  | .p b o, y, h => by
    cases y <;> simp only [AV.beq] at h <;> try cases h
    simp only [Bool.and_eq_true, Nat.beq_eq] at h
    rw [h.1, h.2]
  | .sl0, y, h => by cases y <;> simp only [AV.beq] at h <;> first | rfl | cases h
  | .sl b o n z, y, h => by
    cases y <;> simp only [AV.beq] at h <;> try cases h
    simp only [Bool.and_eq_true, Nat.beq_eq] at h
    rw [h.1.1.1, h.1.1.2, h.1.2, h.2]
  | .f0, y, h => by cases y <;> simp only [AV.beq] at h <;> first | rfl | cases h
  | .ni, y, h => by cases y <;> simp only [AV.beq] at h <;> first | rfl | cases h
  | .ifc t x, y, h => by
    cases y <;> simp only [AV.beq] at h <;> try cases h
    simp only [Bool.and_eq_true, Nat.beq_eq] at h
    rw [h.1, beq_eq x _ h.2]
  | .f a b c, y, h => by
    cases y <;> simp only [AV.beq] at h <;> try cases h
    simp only [Bool.and_eq_true, Nat.beq_eq] at h
    rw [h.1.1, beqs_eq _ _ h.1.2, beqs_eq _ _ h.2]
  | .ifx, y, h => by cases y <;> simp only [AV.beq] at h <;> first | rfl | cases h
  | .mr k d lo hi, y, h => by
    cases y <;> simp only [AV.beq] at h <;> try cases h
    simp only [Bool.and_eq_true, Nat.beq_eq] at h
    rw [h.1.1.1, eqK_eq h.1.1.2, h.1.2, h.2]
  | .fs k q lo hi, y, h => by
    cases y <;> simp only [AV.beq] at h <;> try cases h
    simp only [Bool.and_eq_true, Nat.beq_eq] at h
    rw [h.1.1.1, h.1.1.2, h.1.2, h.2]
  | .sm l, y, h => by
    cases y <;> simp only [AV.beq] at h <;> try cases h
    rw [beqs_eq _ _ h]
  | .mp k, y, h => by
    cases y <;> simp only [AV.beq] at h <;> try cases h
    rw [Nat.eq_of_beq_eq_true h]
  | .m k, y, h => by
    cases y <;> simp only [AV.beq] at h <;> try cases h
    rw [Nat.eq_of_beq_eq_true h]
  | .agg l, y, h => by
    cases y <;> simp only [AV.beq] at h <;> try cases h
    rw [beqs_eq _ _ h]
  | .tup l, y, h => by
    cases y <;> simp only [AV.beq] at h <;> try cases h
    rw [beqs_eq _ _ h]
theorem beqs_eq : ∀ (x y : List AV), beqs x y = true → x = y
  | [], y, h => by cases y <;> simp_all [beqs]
  | x :: r, y, h => by
    cases y with
    | nil => simp [beqs] at h
    | cons z t =>
      simp only [beqs, Bool.and_eq_true] at h
      rw [beq_eq x z h.1, beqs_eq r t h.2]
end

/-! ### The run in the text's order, as a chain -/
/-- the k-th memory of those so far (the newest first, n + 1 of them). -/
def atH (h : List Mem) (n k : Nat) : Mem := h.getD (n - k) mem0
theorem stable_ok {c : C} {τ : T} {v : AV} {lo hi : Nat} : ∀ {h : List Mem} {n : Nat}, h.length = n + 1 → stable c τ v lo hi h n = true → ∀ k, lo ≤ k → k ≤ hi → k ≤ n → pureA c τ (atH h n k) = some v
  | [], n, hl, _ => by simp at hl
  | σ :: r, n, hl, hs => by
    intro k h1 h2 h3
    simp only [stable, Bool.and_eq_true] at hs
    by_cases e : k = n
    · subst e
      have h4 := hs.1
      rw [if_pos ⟨Nat.ble_eq_true_of_le h1, Nat.ble_eq_true_of_le h2⟩] at h4
      split at h4
      · rename_i u hu
        have : atH (σ :: r) k k = σ := by simp [atH]
        rw [this, hu, beq_eq _ _ h4]
      · cases h4
    · cases n with
      | zero => omega
      | succ n =>
        have h4 := hs.2
        simp only at h4
        have := stable_ok (h := r) (n := n) (by simpa using hl) h4 k h1 h2 (by omega)
        have e2 : atH (σ :: r) (n + 1) k = atH r n k := by
          unfold atH
          rw [show n + 1 - k = (n - k) + 1 from by omega]
          rfl
        rw [e2]; exact this
theorem allStable_ok {h : List Mem} {n : Nat} (hl : h.length = n + 1) : ∀ {rs : List Rd}, allStable h n rs = true → ∀ x ∈ rs, ∀ k, x.lo ≤ k → k ≤ x.hi → k ≤ n → pureA x.c x.τ (atH h n k) = some x.v
  | [], _ => by simp
  | x :: r, hs => by
    simp only [allStable, Bool.and_eq_true] at hs
    intro y hy
    rcases List.mem_cons.1 hy with rfl | hy
    · exact stable_ok hl hs.1
    · exact allStable_ok hl hs.2 y hy
/-- the chain: slots ahead of it, how many writers ahead, slots behind, how many writers. -/
inductive Lex (call : CallA) (S : Nat → Mem) (N : Nat) : List O → T → Nat → T → Nat → Prop where
  | nil {τ : T} {k : Nat} : Lex call S N [] τ k τ k
  | act {o : O} {r : List O} {τ τ' : T} {k k' : Nat} {v : AV} (hw : wantA o.g τ = some true) (hx : execA call o.c τ (S k) = some (v, S (k + 1))) (ha : o.c.acts = true) (hr : Lex call S N r (putA τ o.d v) (k + 1) τ' k') : Lex call S N (o :: r) τ k τ' k'
  | still {o : O} {r : List O} {τ τ' : T} {k k' : Nat} {v : AV} {σ : Mem} (hw : wantA o.g τ = some true) (hx : execA call o.c τ (S k) = some (v, σ)) (ha : o.c.acts = false)
      (hs : ∀ lo hi, o.rd = some (lo, hi) → ∀ m, lo ≤ m → m ≤ hi → m ≤ N → pureA o.c τ (S m) = some v) (hr : Lex call S N r (putA τ o.d v) k τ' k') : Lex call S N (o :: r) τ k τ' k'
  | offAct {o : O} {r : List O} {τ τ' : T} {k k' : Nat} (hw : wantA o.g τ = some false) (ha : o.c.acts = true) (hS : S (k + 1) = S k) (hr : Lex call S N r (putA τ o.d undefA) (k + 1) τ' k') : Lex call S N (o :: r) τ k τ' k'
  | off {o : O} {r : List O} {τ τ' : T} {k k' : Nat} (hw : wantA o.g τ = some false) (ha : o.c.acts = false) (hr : Lex call S N r (putA τ o.d undefA) k τ' k') : Lex call S N (o :: r) τ k τ' k'
theorem atH_cons {σ : Mem} {h : List Mem} {n k : Nat} (hk : k ≤ n) : atH (σ :: h) (n + 1) k = atH h n k := by
  unfold atH
  rw [show n + 1 - k = (n - k) + 1 from by omega]
  rfl
theorem runDraw_lex {call : CallA} : ∀ (l : List O) (τ : T) (h : List Mem) (k : Nat) (rs : List Rd) (τ' : T) (σ' : Mem), h.length = k + 1 → runDraw call l τ h k rs = some (τ', σ') →
    ∃ (hf : List Mem) (N : Nat), hf.length = N + 1 ∧ k ≤ N ∧ (∀ m, m ≤ k → atH hf N m = atH h k m) ∧ (∀ x ∈ rs, ∀ m, x.lo ≤ m → m ≤ x.hi → m ≤ N → pureA x.c x.τ (atH hf N m) = some x.v) ∧
      Lex call (atH hf N) N l τ k τ' N ∧ σ' = atH hf N N
  | [], τ, h, k, rs, τ', σ', hl, hx => by
    simp only [runDraw] at hx
    split at hx
    · rename_i hs
      split at hx
      · rename_i σ r
        cases hx
        exact ⟨_, k, hl, Nat.le_refl _, fun _ _ => rfl, allStable_ok hl hs, .nil, by simp [atH]⟩
      · cases hx
    · cases hx
  | o :: r, τ, h, k, rs, τ', σ', hl, hx => by
    simp only [runDraw] at hx
    split at hx
    · cases hx
    · rename_i σ hr
      have hcur : atH (σ :: hr) k k = σ := by simp [atH]
      split at hx
      · rename_i hw
        split at hx
        · rename_i v σ1 hv
          split at hx
          · rename_i ha
            obtain ⟨hf, N, g1, g2, g3, g4, g5, g6⟩ := runDraw_lex r _ (σ1 :: σ :: hr) (k + 1) rs τ' σ' (by simpa using hl) hx
            refine ⟨hf, N, g1, by omega, fun m hm => by rw [g3 m (by omega), atH_cons hm], g4, ?_, g6⟩
            refine .act (v := v) hw ?_ ha g5
            rw [g3 k (by omega), atH_cons (Nat.le_refl _), hcur, g3 (k + 1) (Nat.le_refl _)]
            simpa [atH] using hv
          · rename_i ha
            obtain ⟨hf, N, g1, g2, g3, g4, g5, g6⟩ := runDraw_lex r _ (σ :: hr) k _ τ' σ' hl hx
            refine ⟨hf, N, g1, g2, g3, ?_, ?_, g6⟩
            · intro x hx'
              exact g4 x (by unfold noteRd; split <;> simp [hx'])
            · refine .still (v := v) (σ := σ1) hw ?_ (by simpa using ha) ?_ g5
              · rw [g3 k (Nat.le_refl _), hcur]; exact hv
              · intro lo hi hrd m h1 h2 h3
                exact g4 ⟨o.c, τ, v, lo, hi⟩ (by unfold noteRd; rw [hrd]; simp) m h1 h2 h3
        · cases hx
      · rename_i hw
        split at hx
        · rename_i ha
          obtain ⟨hf, N, g1, g2, g3, g4, g5, g6⟩ := runDraw_lex r _ (σ :: σ :: hr) (k + 1) rs τ' σ' (by simpa using hl) hx
          refine ⟨hf, N, g1, by omega, fun m hm => by rw [g3 m (by omega), atH_cons hm], g4, ?_, g6⟩
          refine .offAct hw ha ?_ g5
          rw [g3 (k + 1) (Nat.le_refl _), g3 k (by omega), atH_cons (Nat.le_refl _), hcur]
          simp [atH]
        · rename_i ha
          obtain ⟨hf, N, g1, g2, g3, g4, g5, g6⟩ := runDraw_lex r _ (σ :: hr) k rs τ' σ' hl hx
          exact ⟨hf, N, g1, g2, g3, g4, .off hw (by simpa using ha) g5, g6⟩
      · cases hx
end Go.Proofs.YtpflpjkbiopmpaaGreatDoor.Ev
