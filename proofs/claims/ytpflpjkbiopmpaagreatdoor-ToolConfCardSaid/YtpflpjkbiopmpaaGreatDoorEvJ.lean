/-
  A region that draws its order: the law. No program is named here.
-/
import Derived.Test.YtpflpjkbiopmpaaGreatDoorEvI
set_option linter.unusedVariables false
set_option linter.unusedSimpArgs false
set_option linter.unnecessarySimpa false
set_option linter.all false
namespace Go.Proofs.YtpflpjkbiopmpaaGreatDoor.Ev
open Go Go.RowKit

def dstIs (l : List O) (i t : Nat) : Bool := match l[i]? with
  | some x => (match x.d with | some d => d == t | none => false)
  | none => false
/-- what a slot holds when such operations have come up. -/
def valN (l : List O) (vs : Nat → AV) (τ : T) (L : Nat → Bool) (t : Nat) : Nat → AV
  | 0 => (X.t t).ev τ
  | i + 1 => if L i && dstIs l i t then vs i else valN l vs τ L t i
section
variable {l : List O} {vs : Nat → AV} {τ : T} {L L' : Nat → Bool} {t : Nat}
theorem valN_lex {τs : Nat → T} {nt : Nat} (h0 : τs 0 = τ) (hs : ∀ (i : Nat) (x : O), l[i]? = some x → τs (i + 1) = putA (τs i) x.d (vs i) ∧ dstOk nt x.d = true) : ∀ i, i ≤ l.length → (X.t t).ev (τs i) = valN l vs τ (fun _ => true) t i
  | 0, _ => by rw [h0]; rfl
  | i + 1, hi => by
    have hx : l[i]? = some l[i] := List.getElem?_eq_getElem (by omega)
    obtain ⟨h1, h2⟩ := hs i _ hx
    rw [h1, ev_put h2, valN_lex h0 hs i (by omega)]
    simp only [valN, dstIs, hx, Bool.true_and]
    cases hd : l[i].d with
    | none => simp
    | some d =>
      by_cases e : d = t
      · subst e; simp
      · have : (d == t) = false := by simpa using e
        rw [if_neg (by simpa using e)]; simp [this]
theorem valN_above (i : Nat) : ∀ k, (∀ m, i ≤ m → m < i + k → (L m && dstIs l m t) = false) → valN l vs τ L t (i + k) = valN l vs τ L t i
  | 0, _ => rfl
  | k + 1, h => by
    rw [show i + (k + 1) = (i + k) + 1 from by omega, valN, h (i + k) (by omega) (by omega)]
    simp only [Bool.false_eq_true, if_false]
    exact valN_above i k fun m h1 h2 => h m h1 (by omega)
theorem valN_same : ∀ i, (∀ m, m < i → dstIs l m t = true → L m = L' m) → valN l vs τ L t i = valN l vs τ L' t i
  | 0, _ => rfl
  | i + 1, h => by
    simp only [valN]
    rw [valN_same i fun m hm hd => h m (by omega) hd]
    cases hd : dstIs l i t with
    | false => simp
    | true => rw [h i (by omega) hd]
end
def unl (L : Nat → Bool) : Nat → Nat
  | 0 => 0
  | k + 1 => unl L k + (!L k).toNat
theorem unl_zero {L : Nat → Bool} : ∀ n, unl L n = 0 → ∀ i, i < n → L i = true
  | 0, _, i, hi => by omega
  | n + 1, h, i, hi => by
    simp only [unl] at h
    by_cases e : i = n
    · subst e
      cases hL : L i with
      | true => rfl
      | false => rw [hL] at h; simp at h
    · exact unl_zero n (by omega) i (by omega)
theorem unl_add {L : Nat → Bool} {i : Nat} (hi : L i = false) : ∀ n, i < n → unl (fun q => L q || q == i) n + 1 = unl L n
  | 0, h => by omega
  | n + 1, h => by
    simp only [unl]
    by_cases e : i = n
    · subst e
      have : unl (fun q => L q || q == i) i = unl L i := by
        have aux : ∀ k, k ≤ i → unl (fun q => L q || q == i) k = unl L k := by
          intro k
          induction k with
          | zero => intro _; rfl
          | succ k ih =>
            intro hk
            simp only [unl, ih (by omega)]
            have : (k == i) = false := by simp; omega
            rw [this, Bool.or_false]
        exact aux i (Nat.le_refl _)
      rw [this, hi]
      simp
    · have := unl_add hi n (by omega)
      have e2 : (n == i) = false := by simp; omega
      rw [e2, Bool.or_false]
      omega
theorem undef_only {μ : Mu} {j : J} (hμ : Marks μ) {x : AV} (h : RV μ j x undef) : x = undefA := by
  cases x
  case tup l =>
    obtain ⟨a, e, h1⟩ := h
    unfold undef at e
    cases e
    cases l with
    | nil => rfl
    | cons y r => obtain ⟨_, _, e, _⟩ := h1; cases e
  case m k =>
    have : undef = μ.val k := h
    have h2 := hμ k
    rw [← this] at h2
    cases h2
  case mp => rcases h with ⟨_, e⟩ | ⟨_, _, e⟩ <;> cases e
  case ifx => obtain ⟨_, _, e⟩ := h; cases e
  case mr => obtain ⟨_, _, e, _⟩ := h; cases e
  case fs => obtain ⟨_, _, _, _, e, _⟩ := h; cases e
  case sm => obtain ⟨_, e, _⟩ := h; cases e
  case b => cases h
  case i => cases h
  case s => obtain ⟨_, e, _⟩ := h; cases e
  case p0 => cases h
  case p => obtain ⟨_, _, e⟩ := h; cases e
  case sl0 => cases h
  case sl =>
    rcases h with ⟨_, _, _, _, e, _⟩ | ⟨_, _, _, e, _⟩ <;> cases e
  case f0 => cases h
  case ni => cases h
  case ifc => obtain ⟨_, e, _⟩ := h; cases e
  case f => obtain ⟨_, _, e, _⟩ := h; cases e
  case agg => obtain ⟨_, e, _⟩ := h; cases e

section
variable {P : Program} {μ : Mu} {B : Nat → Prop} {w0 w : World} {j : J} {σ σ' : Mem} {τ τ' : T} {a : Act}
theorem draw_ok (hμ : Marks μ) {call : CallA} (hcall : CallsOK P μ call) {nt : Nat} {ops : Array Oper} {l : List O} (hc : cDraw P nt ops = some l) (hx : runDraw call l τ [σ] 0 [] = some (τ', σ'))
    (ht : RT μ j τ a) (hr : Rel μ B w0 j σ w) (hn : a.tmps.size = nt) (hmix : P.follows .mixedOrders = true) {Q : Exit → Act → World → Prop} (hq : After μ B w0 j nt a τ' σ' (Q .normal)) {id : Nat} : (Code.region id ops true).wp P Q a w := by
  unfold cDraw at hc
  split at hc
  · cases hc
  · rename_i l0 hl0
    simp only at hc
    split at hc
    · rename_i hchk
      simp only [Bool.and_eq_true, Nat.ble_eq] at hchk
      obtain ⟨⟨hedge, hahead⟩, hnt⟩ := hchk
      simp only [Option.some.injEq] at hc
      obtain ⟨hlen0, hops0⟩ := cOpers_nth hl0
      obtain ⟨ext, hms, hmslen⟩ := masks_pre ops.toList []
      obtain ⟨hlenms, hpair0⟩ := allAhead_ok _ _ _ hahead
      generalize hmsv : masks ops.toList [] = ms at hc hahead hlenms hpair0 hms
      have hn0 : l0.length = ops.size := by simpa using hlen0
      obtain ⟨hlenl, hwith⟩ := withRd_nth l0 ms l0 ms 0 hlenms
      rw [hc] at hlenl hwith
      -- each operation, with all that is known of it
      have hO : ∀ (i : Nat) (o : Oper), ops[i]? = some o → ∃ (x0 x : O) (m : Nat), l0[i]? = some x0 ∧ l[i]? = some x ∧ ms[i]? = some m ∧ x.c = x0.c ∧ x.d = x0.d ∧ x.g = x0.g ∧ cOper P nt ops o = some x0 ∧ (x0.c.reads = true → x.rd = some (loOf m l0 0, hiOf i l0 ms)) := by
        intro i o ho
        obtain ⟨x0, h1, h2⟩ := hops0 i o (by simpa using ho)
        obtain ⟨m, h3, h4⟩ := hwith i x0 h1
        rw [Nat.zero_add] at h4
        refine ⟨x0, _, m, h1, h4, h3, ?_, ?_, ?_, h2, ?_⟩
        · split <;> rfl
        · split <;> rfl
        · split <;> rfl
        · intro hrd; rw [if_pos hrd]
      have hpair : ∀ (i i' : Nat) (x x' : O) (m : Nat), i < i' → l0[i]? = some x → l0[i']? = some x' → ms[i']? = some m → pairOk x x' (bit m i) = true := by
        intro i i' x x' m hlt h1 h2 h3
        exact hpair0 i' x' m h2 h3 i x (by simpa using hlt) (by simpa using h1)
      obtain ⟨hf, N, _, _, hS0, _, hlex, hσ'⟩ := runDraw_lex l τ [σ] 0 [] τ' σ' rfl hx
      generalize hS : atH hf N = S at hS0 hlex hσ'
      have hS00 : S 0 = σ := by rw [hS0 0 (Nat.le_refl _)]; rfl
      obtain ⟨τs, vs, ks, e0, k0, en, kn, hstep⟩ := lex_fun hlex
      rw [hlenl, hn0] at en kn
      have hdst : ∀ (i : Nat) (x : O), l0[i]? = some x → τs (i + 1) = putA (τs i) x.d (vs i) ∧ dstOk nt x.d = true := by
        intro i x hxi
        have hi : i < ops.size := by rw [← hn0]; exact (List.getElem?_eq_some_iff.1 hxi).1
        obtain ⟨x0, x1, m, h1, h2, h3, h4, h5, h6, h7, _⟩ := hO i ops[i] (Array.getElem?_eq_getElem hi)
        rw [hxi] at h1
        cases h1
        obtain ⟨c1, c2, c3, c4, _⟩ := cOper_ok h7
        exact ⟨by rw [(hstep i x1 h2).1, h5], by rw [c3]; exact c4⟩
      have hkst : ∀ i, i ≤ ops.size → ks i = cntL l0 (fun q => decide (q < i)) 0 := by
        intro i
        induction i with
        | zero =>
          intro _
          rw [k0]
          have aux : ∀ (m : List O) (k : Nat), cntL m (fun q => decide (q < 0)) k = 0 := by
            intro m
            induction m with
            | nil => intro k; rfl
            | cons y r ih => intro k; simp only [cntL, ih]; simp
          exact (aux l0 0).symm
        | succ i ih =>
          intro hi
          obtain ⟨x0, x1, m, h1, h2, h3, h4, _⟩ := hO i ops[i] (Array.getElem?_eq_getElem (by omega))
          rw [(hstep i x1 h2).2.1, ih (by omega), h4]
          have := cntL_add (f := fun q => decide (q < i)) l0 0 i x0 h1 (by simp)
          rw [← this]
          refine cntL_congr l0 0 fun q y _ _ => ?_
          rw [Bool.eq_iff_iff]
          simp only [Nat.zero_add, Bool.or_eq_true, decide_eq_true_eq, beq_iff_eq]
          omega
      -- the invariant
      let Inv : (Nat → Bool) → Act → World → Prop := fun L a1 w1 => ∃ j1 : J, j.le j1 ∧ a1.tmps.size = nt ∧ a1.defers = a.defers ∧ Rel μ B w0 j1 (S (cntL l0 L 0)) w1 ∧ ∀ t, RV μ j1 (valN l0 vs τ L t ops.size) (a1.tmps.getD t undef)
      let Down : (Nat → Bool) → Prop := fun L => ∀ (i m p : Nat), L i = true → ms[i]? = some m → bit m p = true → L p = true
      have step : ∀ (L : Nat → Bool) (a1 : Act) (w1 : World) (i : Nat) (o : Oper) (K : Act → World → Prop), Inv L a1 w1 → Down L → L i = false → ops[i]? = some o → (∀ e ∈ o.after, Region.binds .any e = true → L e.on = true) →
          (∀ a2 w2, Inv (fun q => L q || q == i) a2 w2 → K a2 w2) → wpOp P ops Q i K a1 w1 := by
        intro L a1 w1 i o K ⟨j1, hj1, hn1, hd1, hr1, hv1⟩ hdown hLi ho hready hK
        obtain ⟨x0, x, mi, h1, h2, h3, h4, h5, h6, h7, h8⟩ := hO i o ho
        obtain ⟨c1, c2, c3, c4, _⟩ := cOper_ok h7
        have hi : i < ops.size := (Array.getElem?_eq_some_iff.1 ho).1
        have hbits : ∀ p, bit mi p = true → L p = true := by
          intro p hp
          obtain ⟨e, he, hb, h⟩ := masks_ok ops.toList [] i o mi (by simpa using ho) (by rw [hmsv]; simpa using h3) p hp
          have hLe := hready e (by simpa using he) hb
          rcases h with rfl | ⟨m', hm', hp'⟩
          · exact hLe
          · rw [hmsv] at hm'
            exact hdown _ _ _ hLe hm' hp'
        -- later ones that have come up don't wait for it
        have later : ∀ m, i < m → L m = true → ∀ y, l0[m]? = some y → (x0.c.acts && y.c.acts) = false ∧ (∀ d, y.d = some d → x0.names.contains d = false) ∧ ∃ mm, ms[m]? = some mm ∧ bit mm i = false := by
          intro m hm hLm y hy
          obtain ⟨mm, hmm⟩ : ∃ mm, ms[m]? = some mm := ⟨ms[m]'(by rw [← hlenms]; exact (List.getElem?_eq_some_iff.1 hy).1), List.getElem?_eq_getElem _⟩
          have hb : bit mm i = false := by
            cases hbb : bit mm i with
            | false => rfl
            | true => rw [hdown _ _ _ hLm hmm hbb] at hLi; cases hLi
          have hp := hpair i m x0 y mm hm h1 hy hmm
          simp only [pairOk, hb, Bool.false_or, Bool.and_eq_true, Bool.not_eq_true'] at hp
          refine ⟨hp.1.1, fun d hd => ?_, mm, hmm, hb⟩
          have := hp.2
          rw [hd] at this
          simpa using this
        have earlier : ∀ m, m < i → L m = false → ∀ y, l0[m]? = some y → (y.c.acts && x0.c.acts) = false ∧ ∀ d, y.d = some d → x0.names.contains d = false := by
          intro m hm hLm y hy
          have hb : bit mi m = false := by
            cases hbb : bit mi m with
            | false => rfl
            | true => rw [hbits m hbb] at hLm; cases hLm
          have hp := hpair m i y x0 mi hm hy h1 h3
          simp only [pairOk, hb, Bool.false_or, Bool.and_eq_true, Bool.not_eq_true'] at hp
          refine ⟨hp.1.1, fun d hd => ?_⟩
          have := hp.1.2
          rw [hd] at this
          simpa using this
        have dis : ∀ m t, dstIs l0 m t = true → ∃ y, l0[m]? = some y ∧ y.d = some t := by
          intro m t hd
          unfold dstIs at hd
          split at hd
          · rename_i y hy
            split at hd
            · rename_i d hdd
              refine ⟨y, hy, ?_⟩
              rw [hdd, show d = t by simpa using hd]
            · cases hd
          · cases hd
        have above : ∀ t, x0.names.contains t = true → ∀ m, i < m → (L m && dstIs l0 m t) = false := by
          intro t htn m hm
          cases hLm : L m with
          | false => rfl
          | true =>
            cases hd : dstIs l0 m t with
            | false => rfl
            | true =>
              obtain ⟨y, hy, hyd⟩ := dis m t hd
              have := (later m hm hLm y hy).2.1 t hyd
              rw [htn] at this
              cases this
        have seen : ∀ t, x0.names.contains t = true → valN l0 vs τ L t ops.size = (X.t t).ev (τs i) := by
          intro t htn
          rw [valN_lex e0 hdst i (by omega)]
          have hup := valN_above (l := l0) (vs := vs) (τ := τ) (L := L) (t := t) i (ops.size - i) fun m h1' h2' => by
            by_cases e : m = i
            · rw [e, hLi]; rfl
            · exact above t htn m (by omega)
          rw [show i + (ops.size - i) = ops.size from by omega] at hup
          rw [hup]
          refine valN_same i fun m hm hd => ?_
          cases hLm : L m with
          | true => rfl
          | false =>
            obtain ⟨y, hy, hyd⟩ := dis m t hd
            have := (earlier m hm hLm y hy).2 t hyd
            rw [htn] at this
            cases this
        -- the slots as a table
        have hev : ∀ t, (X.t t).ev (tabT (fun t => valN l0 vs τ L t ops.size) nt) = valN l0 vs τ L t ops.size := by
          intro t
          simp only [X.ev, tabT_get _ nt hnt]
          by_cases e : t < nt
          · rw [if_pos e]
          · rw [if_neg e]
            have := hv1 t
            rw [Array.getD_eq_getD_getElem?, Array.getElem?_eq_none (by omega), Option.getD_none] at this
            exact (undef_only hμ this).symm
        have ht1 : RT μ j1 (tabT (fun t => valN l0 vs τ L t ops.size) nt) a1 := fun t => by rw [hev]; exact hv1 t
        have hlooks : ∀ t, t ∈ x0.looks → (X.t t).ev (tabT (fun t => valN l0 vs τ L t ops.size) nt) = (X.t t).ev (τs i) := by
          intro t hl
          rw [hev, seen t (by simp [O.names, hl])]
        have hwant : wantA x0.g (tabT (fun t => valN l0 vs τ L t ops.size) nt) = wantA x.g (τs i) := by
          rw [h6]
          exact want_congr fun t h => hlooks t (by simp [O.looks, h])
        have hexec : ∀ σ1, execA call x0.c (tabT (fun t => valN l0 vs τ L t ops.size) nt) σ1 = execA call x.c (τs i) σ1 := by
          intro σ1
          rw [h4]
          exact exec_congr fun t h => hlooks t (by simp [O.looks, h])
        have hcnt : cntL l0 (fun q => L q || q == i) 0 = cntL l0 L 0 + x0.c.acts.toNat := by
          have := cntL_add (f := L) l0 0 i x0 h1 (by rw [Nat.zero_add]; exact hLi)
          rwa [Nat.zero_add] at this
        -- the slots behind it
        have hval : ∀ (j2 : J) (v : Value), j1.le j2 → RV μ j2 (vs i) v → ∀ t, RV μ j2 (valN l0 vs τ (fun q => L q || q == i) t ops.size) ((a1.put o.dst v).tmps.getD t undef) := by
          intro j2 v hj2 hv t
          cases hd : dstIs l0 i t with
          | true =>
            obtain ⟨y, hy, hyd⟩ := dis i t hd
            rw [h1] at hy
            cases hy
            have htn : x0.names.contains t = true := by simp [O.names, hyd]
            have hup := valN_above (l := l0) (vs := vs) (τ := τ) (L := fun q => L q || q == i) (t := t) (i + 1) (ops.size - (i + 1)) fun m h1' h2' => by
              have : (m == i) = false := by simp; omega
              rw [this, Bool.or_false]
              exact above t htn m (by omega)
            rw [show i + 1 + (ops.size - (i + 1)) = ops.size from by omega] at hup
            rw [hup]
            simp only [valN, hd, beq_self_eq_true, Bool.or_true, Bool.and_self, if_true]
            have hod : o.dst = some t := by rw [← c3, hyd]
            have htlt : t < nt := by
              rw [hod] at c4
              simp only [dstOk, Bool.and_eq_true, Nat.blt_eq] at c4
              omega
            rw [hod]
            simp only [Act.put, Array.getD_eq_getD_getElem?, Array.getElem?_setIfInBounds_self_of_lt (show t < a1.tmps.size by omega), Option.getD_some]
            exact hv
          | false =>
            rw [valN_same (L' := L) ops.size fun m _ hm => by
              by_cases e : m = i
              · rw [e] at hm; rw [hm] at hd; cases hd
              · have : (m == i) = false := by simpa using e
                rw [this, Bool.or_false]]
            have hne : o.dst ≠ some t := by
              intro e
              rw [← c3] at e
              unfold dstIs at hd
              rw [h1] at hd
              simp [e] at hd
            have : (a1.put o.dst v).tmps.getD t undef = a1.tmps.getD t undef := by
              cases hod : o.dst with
              | none => rfl
              | some d =>
                have : d ≠ t := fun e => hne (by rw [hod, e])
                simp only [Act.put, Array.getD_eq_getD_getElem?, Array.getElem?_setIfInBounds_ne this]
            rw [this]
            exact (hv1 t).mono hj2
        have fin : ∀ (j2 : J) (v : Value) (w2 : World), j1.le j2 → RV μ j2 (vs i) v → Rel μ B w0 j2 (S (cntL l0 L 0 + x0.c.acts.toNat)) w2 → K (a1.put o.dst v) w2 := by
          intro j2 v w2 hj2 hv hr2
          refine hK _ _ ⟨j2, hj1.trans hj2, by rw [put_size]; exact hn1, by rw [put_defers]; exact hd1, by rw [hcnt]; exact hr2, hval j2 v hj2 hv⟩
        have hacts : x0.c.acts = true → cntL l0 L 0 = ks i := by
          intro ha
          rw [hkst i (by omega)]
          refine cntL_congr l0 0 fun q y hy hya => ?_
          rw [Nat.zero_add]
          rcases Nat.lt_trichotomy q i with hlt | rfl | hgt
          · rw [show decide (q < i) = true by simpa using hlt]
            cases hLq : L q with
            | true => rfl
            | false =>
              have := (earlier q hlt hLq y hy).1
              rw [hya, ha] at this
              cases this
          · rw [hLi]; simp
          · rw [show decide (q < i) = false by simp; omega]
            cases hLq : L q with
            | false => rfl
            | true =>
              have := (later q hgt hLq y hy).1
              rw [hya, ha] at this
              cases this
        obtain ⟨_, _, hst⟩ := hstep i x h2
        unfold wpOp
        rw [ho]
        simp only
        rcases hst with ⟨hw, hst⟩ | ⟨hw, hvu, hoff⟩
        · rw [if_pos (guard_ok c2 rfl ht1 (by rw [hwant]; exact hw))]
          left
          rcases hst with ⟨ha, hex⟩ | ⟨ha, ⟨σ1, hex⟩, hstab⟩
          · have ha0 : x0.c.acts = true := by rw [← h4]; exact ha
            have hk := hacts ha0
            refine exec_ok hμ (hk ▸ hr1) ht1 hcall c1 (by rw [hexec]; exact hex) K Q fun j2 v w2 hj2 hv hr2 => fin j2 v w2 hj2 hv ?_
            rw [hk, ha0]; exact hr2
          · have ha0 : x0.c.acts = false := by rw [← h4]; exact ha
            have hsame : execA call x.c (τs i) (S (cntL l0 L 0)) = some (vs i, S (cntL l0 L 0)) := by
              cases hrd : x.c.reads with
              | false => exact (exec_any hex ha hrd).2 _
              | true =>
                have hrd0 : x0.c.reads = true := by rw [← h4]; exact hrd
                refine (exec_reads hex hrd).2 _ (hstab _ _ (h8 hrd0) _ ?_ ?_ ?_)
                · rw [loOf_eq]
                  exact cntL_mono l0 0 fun q y _ _ hb => by rw [Nat.zero_add] at hb ⊢; exact hbits q hb
                · rw [hiOf_eq i ms l0 ms 0 rfl hlenms]
                  refine cntL_mono l0 0 fun q y hy _ hLq => ?_
                  rw [Nat.zero_add] at hLq ⊢
                  obtain ⟨mm, hmm⟩ : ∃ mm, ms[q]? = some mm := ⟨ms[q]'(by rw [← hlenms]; exact (List.getElem?_eq_some_iff.1 hy).1), List.getElem?_eq_getElem _⟩
                  rw [List.getD_eq_getElem?_getD, hmm, Option.getD_some]
                  cases hb : bit mm i with
                  | false => rfl
                  | true => rw [hdown _ _ _ hLq hmm hb] at hLi; cases hLi
                · have hkn := hkst ops.size (Nat.le_refl _)
                  rw [kn] at hkn
                  rw [hkn]
                  refine cntL_mono l0 0 fun q y hy _ _ => ?_
                  have := (List.getElem?_eq_some_iff.1 hy).1
                  simp; omega
            refine exec_ok hμ hr1 ht1 hcall c1 (by rw [hexec]; exact hsame) K Q fun j2 v w2 hj2 hv hr2 => fin j2 v w2 hj2 hv ?_
            rw [ha0]; exact hr2
        · rw [if_neg (by rw [guard_ok c2 rfl ht1 (by rw [hwant]; exact hw)]; simp)]
          refine fin j1 undef w1 (J.le.refl _) (by rw [hvu]; exact ⟨#[], rfl, rfl⟩) ?_
          cases ha : x0.c.acts with
          | false => exact hr1
          | true =>
            have hk := hacts ha
            have hSS := hoff (by rw [h4]; exact ha)
            rw [hk] at hr1 ⊢
            show Rel μ B w0 j1 (S (ks i + 1)) w1
            rw [hSS]; exact hr1
      have main : ∀ (fuel : Nat) (listed : Array Bool) (a1 : Act) (w1 : World), listed.size = ops.size → unl (fun q => listed.getD q false) ops.size ≤ fuel → Inv (fun q => listed.getD q false) a1 w1 → Down (fun q => listed.getD q false) → wpAny P .any ops Q fuel listed a1 w1 := by
        -- where nothing is ready, all have come up
        have alldone : ∀ listed : Array Bool, listed.size = ops.size → Region.ready .any ops listed = [] → ∀ i, i < ops.size → listed.getD i false = true := by
          intro listed hsz hnil i
          induction i using Nat.strongRecOn with
          | ind i ih =>
            intro hi
            cases hLi : listed.getD i false with
            | true => rfl
            | false =>
              have hmem : i ∈ Region.ready .any ops listed := by
                rw [mem_ready]
                refine ⟨?_, ops[i], Array.getElem?_eq_getElem hi, fun e he hb => ?_⟩
                · have : i < listed.size := by omega
                  simp only [Array.getD_eq_getD_getElem?, Array.getElem?_eq_getElem this, Option.getD_some] at hLi ⊢
                  exact hLi
                · have := edges_ok ops.toList 0 hedge i ops[i] (by simp [hi]) e (by simpa using he) hb
                  exact ih e.on (by omega) (by omega)
              rw [hnil] at hmem
              cases hmem
        have finish : ∀ (listed : Array Bool) (a1 : Act) (w1 : World), (∀ i, i < ops.size → listed.getD i false = true) → Inv (fun q => listed.getD q false) a1 w1 → Q .normal a1 w1 := by
          intro listed a1 w1 hall ⟨j1, hj1, hn1, hd1, hr1, hv1⟩
          have hcn : cntL l0 (fun q => listed.getD q false) 0 = N := by
            rw [← kn, hkst ops.size (Nat.le_refl _)]
            refine cntL_congr l0 0 fun q y hy _ => ?_
            have hq' : q < ops.size := by rw [← hn0]; exact (List.getElem?_eq_some_iff.1 hy).1
            rw [Nat.zero_add, hall q hq']
            simpa using hq'
          rw [hcn] at hr1
          rw [← hσ'] at hr1
          refine hq j1 a1 w1 hj1 (fun t => ?_) hr1 hn1 hd1
          rw [← en, valN_lex e0 hdst ops.size (by omega)]
          rw [← valN_same (L := fun q => listed.getD q false) ops.size fun m hm _ => hall m hm]
          exact hv1 t
        intro fuel
        induction fuel with
        | zero =>
          intro listed a1 w1 hsz hun hinv hdown
          have hall := unl_zero (L := fun q => listed.getD q false) ops.size (by omega)
          refine ⟨?_, finish listed a1 w1 hall hinv⟩
          cases hrd : Region.ready .any ops listed with
          | nil => rfl
          | cons i r =>
            have hmem : i ∈ Region.ready .any ops listed := by rw [hrd]; simp
            obtain ⟨h1, o, ho, _⟩ := mem_ready.1 hmem
            have hi : i < ops.size := (Array.getElem?_eq_some_iff.1 ho).1
            have := hall i hi
            simp only [Array.getD_eq_getD_getElem?, Array.getElem?_eq_getElem (show i < listed.size by omega), Option.getD_some] at this h1
            rw [h1] at this; cases this
        | succ fuel ih =>
          intro listed a1 w1 hsz hun hinv hdown
          refine ⟨fun hnil => finish listed a1 w1 (alldone listed hsz hnil) hinv, fun i hmem => ?_⟩
          obtain ⟨h1, o, ho, h2⟩ := mem_ready.1 hmem
          have hi : i < ops.size := (Array.getElem?_eq_some_iff.1 ho).1
          have hLi : listed.getD i false = false := by
            simp only [Array.getD_eq_getD_getElem?, Array.getElem?_eq_getElem (show i < listed.size by omega), Option.getD_some] at h1 ⊢
            exact h1
          have hset : (fun q => (listed.setIfInBounds i true).getD q false) = fun q => listed.getD q false || q == i := by
            funext q
            by_cases e : q = i
            · subst e
              simp only [Array.getD_eq_getD_getElem?, Array.getElem?_setIfInBounds_self_of_lt (show q < listed.size by omega), Option.getD_some, beq_self_eq_true, Bool.or_true]
            · have e2 : (q == i) = false := by simpa using e
              simp only [Array.getD_eq_getD_getElem?, Array.getElem?_setIfInBounds_ne (Ne.symm e), e2, Bool.or_false]
          refine step (fun q => listed.getD q false) a1 w1 i o _ hinv hdown hLi ho h2 fun a2 w2 hinv2 => ?_
          refine ih (listed.setIfInBounds i true) a2 w2 (by simpa using hsz) ?_ (by rw [hset]; exact hinv2) ?_
          · rw [hset]
            have := unl_add (L := fun q => listed.getD q false) hLi ops.size hi
            omega
          · rw [hset]
            intro i2 m2 p hL2 hm2 hb2
            simp only [Bool.or_eq_true, beq_iff_eq] at hL2 ⊢
            left
            rcases hL2 with hL2 | rfl
            · exact hdown i2 m2 p hL2 hm2 hb2
            · obtain ⟨e, he, hbd, h⟩ := masks_ok ops.toList [] i2 o m2 (by simpa using ho) (by rw [hmsv]; simpa using hm2) p hb2
              have hLe := h2 e (by simpa using he) hbd
              rcases h with rfl | ⟨m', hm', hp'⟩
              · exact hLe
              · rw [hmsv] at hm'
                exact hdown _ _ _ hLe hm' hp'
      refine wp_region_any hmix (main ops.size _ a _ (by simp) ?_ ?_ ?_)
      · have aux : ∀ (L : Nat → Bool) (n : Nat), unl L n ≤ n := by
          intro L n
          induction n with
          | zero => exact Nat.le_refl _
          | succ n ih =>
            simp only [unl]
            have : (!L n).toNat ≤ 1 := Bool.toNat_le _
            omega
        exact aux _ _
      · have hfalse : (fun q => (Array.replicate ops.size false).getD q false) = fun _ => false := by
          funext q
          simp only [Array.getD_eq_getD_getElem?, Array.getElem?_replicate]
          split <;> rfl
        rw [hfalse]
        have hc0 : cntL l0 (fun _ => false) 0 = 0 := by
          have aux : ∀ (m : List O) (k : Nat), cntL m (fun _ => false) k = 0 := by
            intro m
            induction m with
            | nil => intro k; rfl
            | cons y r ih => intro k; simp only [cntL, ih]; simp
          exact aux l0 0
        refine ⟨j, J.le.refl _, hn, rfl, by rw [hc0, hS00]; exact hr.drew, fun t => ?_⟩
        have : valN l0 vs τ (fun _ => false) t ops.size = (X.t t).ev τ := by
          have := valN_above (l := l0) (vs := vs) (τ := τ) (L := fun _ => false) (t := t) 0 ops.size fun m _ _ => rfl
          rw [Nat.zero_add] at this
          exact this
        rw [this]
        exact ht t
      · have hfalse : (fun q => (Array.replicate ops.size false).getD q false) = fun _ => false := by
          funext q
          simp only [Array.getD_eq_getD_getElem?, Array.getElem?_replicate]
          split <;> rfl
        rw [hfalse]
        intro i m p h
        cases h
    · cases hc
end
end Go.Proofs.YtpflpjkbiopmpaaGreatDoor.Ev
