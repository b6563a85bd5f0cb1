/-
  A region that draws its order, one operation of which may come early: in every order it leaves what the run in the text's order leaves. No program is named here.
-/
import Derived.Test.YtpflpjkbiopmpaaGreatDoorEvJ
import Derived.Deep.LoopGhost
set_option linter.unusedVariables false
set_option linter.unusedSimpArgs false
set_option linter.unnecessarySimpa false
set_option linter.all false
namespace Go.Proofs.YtpflpjkbiopmpaaGreatDoor.Ev
open Go Go.RowKit

theorem put_inj {a a2 : Act} (hsz : a2.tmps.size = a.tmps.size) {d : Option Nat} {v v' : Value} (h : a2.put d v = a2.put d v') : a.put d v = a.put d v' := by
  cases d with
  | none => rfl
  | some d =>
    have h' := congrArg Act.tmps h
    by_cases hlt : d < a.tmps.size
    · have h2' := congrArg (fun (z : Array Value) => z[d]?) h'
      simp only [Act.put] at h2'
      rw [Array.getElem?_setIfInBounds_self_of_lt (by omega), Array.getElem?_setIfInBounds_self_of_lt (by omega)] at h2'
      cases h2'; rfl
    · simp only [Act.put, Array.setIfInBounds, dif_neg hlt]
theorem wp_surg {P : Program} {o : Oper} {a a2 : Act} {w : World} {R : Value → World → Prop} (hop : execOp a.eval o = execOp a2.eval o) (hd : a2.defers = a.defers)
    (hinj : ∀ v v', a2.put o.dst v = a2.put o.dst v' → a.put o.dst v = a.put o.dst v') (h : ∀ (K : Act → World → Prop) (Q : Exit → Act → World → Prop), (∀ v w', R v w' → K (a2.put o.dst v) w') → o.wp P a2 w K Q) :
    ∀ (K : Act → World → Prop) (Q : Exit → Act → World → Prop), (∀ v w', R v w' → K (a.put o.dst v) w') → o.wp P a w K Q := by
  intro K Q hk
  have h1 := h (fun b w' => ∃ v, b = a2.put o.dst v ∧ K (a.put o.dst v) w') (fun e _ w' => Q e a w') (fun v w' hr => ⟨v, rfl, hk v w' hr⟩)
  have hout : LetsOut (fun (e : Exit) (_ : Act) (w' : World) => Q e a w') → LetsOut Q := fun ⟨_, w', hq⟩ => ⟨a, w', hq⟩
  unfold Oper.wp at h1 ⊢
  rw [hop]
  generalize (execOp a2.eval o).run P w = r at h1 ⊢
  cases r with
  | ok x w' =>
    cases x <;> simp only [Oper.upon] at h1 ⊢ <;> try exact h1
    case value v =>
      obtain ⟨v', e, hk'⟩ := h1
      rw [hinj _ _ e]; exact hk'
    case skip =>
      obtain ⟨v', e, hk'⟩ := h1
      rw [hinj _ _ e]; exact hk'
    case defer d =>
      obtain ⟨v', e, _⟩ := h1
      have := congrArg Act.defers e
      rw [put_defers, put_defers] at this
      exact absurd (congrArg List.length this) (by simp)
    case enter f args =>
      refine Calls.mono h1 fun e w2 he => ?_
      cases e with
      | returned v =>
        obtain ⟨v', e, hk'⟩ := he
        show K (a.put o.dst v) w2
        rw [hinj _ _ e]; exact hk'
      | panicked chain => exact he
      | outgrown => exact hout he
    case row row args =>
      refine Rows.mono h1 fun v w2 he => ?_
      obtain ⟨v', e, hk'⟩ := he
      rw [hinj _ _ e]; exact hk'
  | halt x w' => cases x <;> simp only [Oper.upon] at h1 ⊢ <;> exact h1
section
variable {P : Program} {μ : Mu} {B : Nat → Prop} {w0 w : World} {j : J} {σ σ' : Mem} {τ τ' : T} {a : Act}
/-- what is held between the early operation and its place in the text. -/
structure PendOK (P : Program) (μ : Mu) (B : Nat → Prop) (w0 : World) (call : CallA) (S : Nat → Mem) (ks : Nat → Nat) (τs : Nat → T) (vs : Nat → AV) (p mp : Nat) (ops : Array Oper) (l0 : List O) where
  Pend : J → Nat → Value → World → Prop
  enter : ∀ (o : Oper) {x0 : O}, ops[p]? = some o → cOp P o = x0.c → ∀ (j1 : J) (a1 : Act) (w1 : World) (τx : T) (i : Nat), i < p → Rel μ B w0 j1 (S (ks i)) w1 → RT μ j1 τx a1 → (∀ t, t ∈ x0.looks → (X.t t).ev τx = (X.t t).ev (τs p)) →
    (∀ (q : Nat) (y : O), i ≤ q → q < p → l0[q]? = some y → y.c.acts = true → bit mp q = false) → ∀ (K : Act → World → Prop) (Q : Exit → Act → World → Prop), (∀ j2 v w2, j1.le j2 → Pend j2 (ks i) v w2 → K (a1.put o.dst v) w2) → o.wp P a1 w1 K Q
  act : ∀ (i : Nat) (o : Oper) (x0 : O), i < p → ops[i]? = some o → l0[i]? = some x0 → x0.c.acts = true → bit mp i = false → cOp P o = x0.c → ∀ (j1 : J) (u : Value) (a1 : Act) (w1 : World) (τx : T), Pend j1 (ks i) u w1 → RT μ j1 τx a1 → execA call x0.c τx (S (ks i)) = some (vs i, S (ks i + 1)) →
    (∀ t, t ∈ x0.looks → (X.t t).ev τx = (X.t t).ev (τs i)) → ∀ (K : Act → World → Prop) (Q : Exit → Act → World → Prop), (∀ j2 v w2, j1.le j2 → RV μ j2 (vs i) v → Pend j2 (ks i + 1) u w2 → K (a1.put o.dst v) w2) → o.wp P a1 w1 K Q
  still : ∀ (i : Nat) (o : Oper) (x0 : O), i < p → ops[i]? = some o → l0[i]? = some x0 → x0.c.acts = false → bit mp i = false → cOp P o = x0.c → ∀ (j1 : J) (u : Value) (a1 : Act) (w1 : World) (τx : T) (k : Nat), Pend j1 k u w1 → RT μ j1 τx a1 → execA call x0.c τx (S k) = some (vs i, S k) →
    ∀ (K : Act → World → Prop) (Q : Exit → Act → World → Prop), (∀ j2 v w2, j1.le j2 → RV μ j2 (vs i) v → Pend j2 k u w2 → K (a1.put o.dst v) w2) → o.wp P a1 w1 K Q
  leave : ∀ (j1 : J) (u : Value) (w1 : World), Pend j1 (ks p) u w1 → ∃ j2, j1.le j2 ∧ Rel μ B w0 j2 (S (ks p + 1)) w1 ∧ RV μ j2 (vs p) u
theorem drawF_core (hμ : Marks μ) {call : CallA} (hcall : CallsOK P μ call) {nt : Nat} {ops : Array Oper} {l l0 : List O} {ms : List Nat} (hl0 : cOpers P nt ops ops.toList = some l0) (hmsv : masks ops.toList [] = ms) (hc : withRd l0 ms l0 ms 0 = l)
    (hedge : edgesOk ops.toList 0 = true) (hnt : nt ≤ 1000000000) (hlenms : l0.length = ms.length) {p : Nat} {f : O} {mp : Nat} (hf : l0[p]? = some f) (hmp : ms[p]? = some mp) (hfg : f.g = none)
    (hpair : ∀ (i i' : Nat) (x x' : O) (m : Nat), i < i' → l0[i]? = some x → l0[i']? = some x' → ms[i']? = some m → bit m i = true ∨ (((x.c.acts && x'.c.acts) = false ∨ i' = p) ∧ (∀ d, x.d = some d → x'.names.contains d = false) ∧ (∀ d, x'.d = some d → x.names.contains d = false)))
    (hbehind : ∀ (i m : Nat), p < i → ms[i]? = some m → bit m p = true ∧ ∀ (q : Nat) (y : O), q < p → l0[q]? = some y → y.c.acts = true → bit m q = true)
    (hfree : ∀ (i : Nat) (o : Oper), i < p → bit mp i = false → ops[i]? = some o → (∀ cs b, o.op ≠ .select cs b) ∧ ∀ x ∈ o.op.operands, freeOf f.d x = true)
    (hfacts : f.c.acts = true)
    (hguard : ∀ (i : Nat) (x : O), i < p → bit mp i = false → l0[i]? = some x → x.c.acts = true → x.g = none)
    {S : Nat → Mem} {N : Nat} {τs : Nat → T} {vs : Nat → AV} {ks : Nat → Nat} (hS00 : S 0 = σ) (e0 : τs 0 = τ) (k0 : ks 0 = 0) (en : τs ops.size = τ') (kn : ks ops.size = N)
    (hstep : ∀ (i : Nat) (o : O), l[i]? = some o → τs (i + 1) = putA (τs i) o.d (vs i) ∧ ks (i + 1) = ks i + o.c.acts.toNat ∧ StepAt call S N o (τs i) (ks i) (vs i)) (hσ' : σ' = S N)
    (pd : PendOK P μ B w0 call S ks τs vs p mp ops l0)
    (ht : RT μ j τ a) (hr : Rel μ B w0 j σ w) (hn : a.tmps.size = nt) (hmix : P.follows .mixedOrders = true) {Q : Exit → Act → World → Prop} (hq : After μ B w0 j nt a τ' σ' (Q .normal)) {id : Nat} : (Code.region id ops true).wp P Q a w := by
      obtain ⟨hlen0, hops0⟩ := cOpers_nth hl0
      have hn0 : l0.length = ops.size := by simpa using hlen0
      obtain ⟨hlenl, hwith⟩ := withRd_nth l0 ms l0 ms 0 hlenms
      rw [hc] at hlenl hwith
      have hpn : p < ops.size := by rw [← hn0]; exact (List.getElem?_eq_some_iff.1 hf).1
      -- each operation, with all that is known of it
      have hO : ∀ (i : Nat) (o : Oper), ops[i]? = some o → ∃ (x0 x : O) (m : Nat), l0[i]? = some x0 ∧ l[i]? = some x ∧ ms[i]? = some m ∧ x.c = x0.c ∧ x.d = x0.d ∧ x.g = x0.g ∧ cOper P nt ops o = some x0 ∧ (x0.c.reads = true → x.rd = some (loOf m l0 0, hiOf i l0 ms)) := by
        intro i o ho
        obtain ⟨x0, h1, h2⟩ := hops0 i o (by simpa using ho)
        obtain ⟨m, h3, h4⟩ := hwith i x0 h1
        rw [Nat.zero_add] at h4
        refine ⟨x0, _, m, h1, h4, h3, ?_, ?_, ?_, h2, ?_⟩
        · split <;> rfl
        · split <;> rfl
        · split <;> rfl
        · intro hrd; rw [if_pos hrd]
      have hdst : ∀ (i : Nat) (x : O), l0[i]? = some x → τs (i + 1) = putA (τs i) x.d (vs i) ∧ dstOk nt x.d = true := by
        intro i x hxi
        have hi : i < ops.size := by rw [← hn0]; exact (List.getElem?_eq_some_iff.1 hxi).1
        obtain ⟨x0, x1, m, h1, h2, h3, h4, h5, h6, h7, _⟩ := hO i ops[i] (Array.getElem?_eq_getElem hi)
        rw [hxi] at h1
        cases h1
        obtain ⟨c1, c2, c3, c4, _⟩ := cOper_ok h7
        exact ⟨by rw [(hstep i x1 h2).1, h5], by rw [c3]; exact c4⟩
      have hkst : ∀ i, i ≤ ops.size → ks i = cntL l0 (fun q => decide (q < i)) 0 := by
        intro i
        induction i with
        | zero =>
          intro _
          rw [k0]
          have aux : ∀ (m : List O) (k : Nat), cntL m (fun q => decide (q < 0)) k = 0 := by
            intro m
            induction m with
            | nil => intro k; rfl
            | cons y r ih => intro k; simp only [cntL, ih]; simp
          exact (aux l0 0).symm
        | succ i ih =>
          intro hi
          obtain ⟨x0, x1, m, h1, h2, h3, h4, _⟩ := hO i ops[i] (Array.getElem?_eq_getElem (by omega))
          rw [(hstep i x1 h2).2.1, ih (by omega), h4]
          have := cntL_add (f := fun q => decide (q < i)) l0 0 i x0 h1 (by simp)
          rw [← this]
          refine cntL_congr l0 0 fun q y _ _ => ?_
          rw [Bool.eq_iff_iff]
          simp only [Nat.zero_add, Bool.or_eq_true, decide_eq_true_eq, beq_iff_eq]
          omega
      have hearly : ∀ (i : Nat) (o : Oper) (m : Nat), ops[i]? = some o → ms[i]? = some m → ∀ q, bit m q = true → q < i := by
        intro i
        induction i using Nat.strongRecOn with
        | ind i ih =>
          intro o m ho hm q hq
          obtain ⟨e, he, hb, h⟩ := masks_ok ops.toList [] i o m (by simpa using ho) (by rw [hmsv]; simpa using hm) q hq
          have h1 := edges_ok ops.toList 0 hedge i o (by simpa using ho) e he hb
          rw [Nat.zero_add] at h1
          rcases h with rfl | ⟨m', hm', hp'⟩
          · exact h1
          · rw [hmsv] at hm'
            have hi : i < ops.size := (Array.getElem?_eq_some_iff.1 ho).1
            have := ih e.on h1 ops[e.on] m' (Array.getElem?_eq_getElem (by omega)) hm' q hp'
            omega
      -- the invariant
      let cnt : (Nat → Bool) → Nat := fun L => cntL l0 L 0
      let pend : (Nat → Bool) → Prop := fun L => L p = true ∧ ∃ (q : Nat) (y : O), q < p ∧ l0[q]? = some y ∧ y.c.acts = true ∧ L q = false
      let InvN : (Nat → Bool) → Act → World → Prop := fun L a1 w1 => ∃ j1 : J, j.le j1 ∧ a1.tmps.size = nt ∧ a1.defers = a.defers ∧ Rel μ B w0 j1 (S (cntL l0 L 0)) w1 ∧ ∀ t, RV μ j1 (valN l0 vs τ L t ops.size) (a1.tmps.getD t undef)
      let InvP : (Nat → Bool) → Act → World → Prop := fun L a1 w1 => ∃ (j1 : J) (u : Value), j.le j1 ∧ a1.tmps.size = nt ∧ a1.defers = a.defers ∧ pd.Pend j1 (cntL l0 (fun q => L q && !(q == p)) 0) u w1 ∧ (∀ t, f.d ≠ some t → RV μ j1 (valN l0 vs τ L t ops.size) (a1.tmps.getD t undef)) ∧ (∀ t, f.d = some t → a1.tmps.getD t undef = u)
      let Inv : (Nat → Bool) → Act → World → Prop := fun L a1 w1 => (¬ pend L → InvN L a1 w1) ∧ (pend L → InvP L a1 w1)
      let Down : (Nat → Bool) → Prop := fun L => ∀ (i m p : Nat), L i = true → ms[i]? = some m → bit m p = true → L p = true
      have tab_ok : ∀ (a2 : Act) (j1 : J) (val : Nat → AV), a2.tmps.size = nt → (∀ t, RV μ j1 (val t) (a2.tmps.getD t undef)) → (∀ t, (X.t t).ev (tabT val nt) = val t) ∧ RT μ j1 (tabT val nt) a2 := by
        intro a2 j1 val hsz hv
        have hev : ∀ t, (X.t t).ev (tabT val nt) = val t := by
          intro t
          simp only [X.ev, tabT_get _ nt hnt]
          by_cases e : t < nt
          · rw [if_pos e]
          · rw [if_neg e]
            have := hv t
            rw [Array.getD_eq_getD_getElem?, Array.getElem?_eq_none (by omega), Option.getD_none] at this
            exact (undef_only hμ this).symm
        exact ⟨hev, fun t => by rw [hev]; exact hv t⟩
      have step : ∀ (L : Nat → Bool) (a1 : Act) (w1 : World) (i : Nat) (o : Oper) (K : Act → World → Prop), Inv L a1 w1 → Down L → L i = false → ops[i]? = some o → (∀ e ∈ o.after, Region.binds .any e = true → L e.on = true) →
          (∀ a2 w2, Inv (fun q => L q || q == i) a2 w2 → K a2 w2) → wpOp P ops Q i K a1 w1 := by
        intro L a1 w1 i o K hinv hdown hLi ho hready hK
        obtain ⟨x0, x, mi, h1, h2, h3, h4, h5, h6, h7, h8⟩ := hO i o ho
        obtain ⟨c1, c2, c3, c4, _⟩ := cOper_ok h7
        have hi : i < ops.size := (Array.getElem?_eq_some_iff.1 ho).1
        have hbits : ∀ q, bit mi q = true → L q = true := by
          intro q hq
          obtain ⟨e, he, hb, h⟩ := masks_ok ops.toList [] i o mi (by simpa using ho) (by rw [hmsv]; simpa using h3) q hq
          have hLe := hready e (by simpa using he) hb
          rcases h with rfl | ⟨m', hm', hp'⟩
          · exact hLe
          · rw [hmsv] at hm'
            exact hdown _ _ _ hLe hm' hp'
        -- later ones that have come up don't wait for it
        have later : ∀ m, i < m → L m = true → ∀ y, l0[m]? = some y → ((x0.c.acts && y.c.acts) = false ∨ m = p) ∧ (∀ d, y.d = some d → x0.names.contains d = false) ∧ ∃ mm, ms[m]? = some mm ∧ bit mm i = false := by
          intro m hm hLm y hy
          obtain ⟨mm, hmm⟩ : ∃ mm, ms[m]? = some mm := ⟨ms[m]'(by rw [← hlenms]; exact (List.getElem?_eq_some_iff.1 hy).1), List.getElem?_eq_getElem _⟩
          have hb : bit mm i = false := by
            cases hbb : bit mm i with
            | false => rfl
            | true => rw [hdown _ _ _ hLm hmm hbb] at hLi; cases hLi
          rcases hpair i m x0 y mm hm h1 hy hmm with hp | ⟨g1, _, g3⟩
          · rw [hb] at hp; cases hp
          · exact ⟨g1, g3, mm, hmm, hb⟩
        have earlier : ∀ m, m < i → L m = false → ∀ y, l0[m]? = some y → ((y.c.acts && x0.c.acts) = false ∨ i = p) ∧ ∀ d, y.d = some d → x0.names.contains d = false := by
          intro m hm hLm y hy
          have hb : bit mi m = false := by
            cases hbb : bit mi m with
            | false => rfl
            | true => rw [hbits m hbb] at hLm; cases hLm
          rcases hpair m i y x0 mi hm hy h1 h3 with hp | ⟨g1, g2, _⟩
          · rw [hb] at hp; cases hp
          · exact ⟨g1, g2⟩
        have dis : ∀ m t, dstIs l0 m t = true → ∃ y, l0[m]? = some y ∧ y.d = some t := by
          intro m t hd
          unfold dstIs at hd
          split at hd
          · rename_i y hy
            split at hd
            · rename_i d hdd
              refine ⟨y, hy, ?_⟩
              rw [hdd, show d = t by simpa using hd]
            · cases hd
          · cases hd
        have above : ∀ t, x0.names.contains t = true → ∀ m, i < m → (L m && dstIs l0 m t) = false := by
          intro t htn m hm
          cases hLm : L m with
          | false => rfl
          | true =>
            cases hd : dstIs l0 m t with
            | false => rfl
            | true =>
              obtain ⟨y, hy, hyd⟩ := dis m t hd
              have := (later m hm hLm y hy).2.1 t hyd
              rw [htn] at this
              cases this
        have seen : ∀ t, x0.names.contains t = true → valN l0 vs τ L t ops.size = (X.t t).ev (τs i) := by
          intro t htn
          rw [valN_lex e0 hdst i (by omega)]
          have hup := valN_above (l := l0) (vs := vs) (τ := τ) (L := L) (t := t) i (ops.size - i) fun m h1' h2' => by
            by_cases e : m = i
            · rw [e, hLi]; rfl
            · exact above t htn m (by omega)
          rw [show i + (ops.size - i) = ops.size from by omega] at hup
          rw [hup]
          refine valN_same i fun m hm hd => ?_
          cases hLm : L m with
          | true => rfl
          | false =>
            obtain ⟨y, hy, hyd⟩ := dis m t hd
            have := (earlier m hm hLm y hy).2 t hyd
            rw [htn] at this
            cases this
        have hwant_of : ∀ τx : T, (∀ t, t ∈ x0.looks → (X.t t).ev τx = (X.t t).ev (τs i)) → wantA x0.g τx = wantA x.g (τs i) := by
          intro τx hl
          rw [h6]
          exact want_congr fun t h => hl t (by simp [O.looks, h])
        have hexec_of : ∀ τx : T, (∀ t, t ∈ x0.looks → (X.t t).ev τx = (X.t t).ev (τs i)) → ∀ σ1, execA call x0.c τx σ1 = execA call x.c (τs i) σ1 := by
          intro τx hl σ1
          rw [h4]
          exact exec_congr fun t h => hl t (by simp [O.looks, h])
        have hcnt : cntL l0 (fun q => L q || q == i) 0 = cntL l0 L 0 + x0.c.acts.toNat := by
          have := cntL_add (f := L) l0 0 i x0 h1 (by rw [Nat.zero_add]; exact hLi)
          rwa [Nat.zero_add] at this
        -- the slots behind it
        have hval : ∀ (j2 : J) (v : Value) (a2 : Act), a2.tmps.size = nt → RV μ j2 (vs i) v → ∀ t, RV μ j2 (valN l0 vs τ L t ops.size) (a2.tmps.getD t undef) → RV μ j2 (valN l0 vs τ (fun q => L q || q == i) t ops.size) ((a2.put o.dst v).tmps.getD t undef) := by
          intro j2 v a2 hn2 hv t hvt
          cases hd : dstIs l0 i t with
          | true =>
            obtain ⟨y, hy, hyd⟩ := dis i t hd
            rw [h1] at hy
            cases hy
            have htn : x0.names.contains t = true := by simp [O.names, hyd]
            have hup := valN_above (l := l0) (vs := vs) (τ := τ) (L := fun q => L q || q == i) (t := t) (i + 1) (ops.size - (i + 1)) fun m h1' h2' => by
              have : (m == i) = false := by simp; omega
              rw [this, Bool.or_false]
              exact above t htn m (by omega)
            rw [show i + 1 + (ops.size - (i + 1)) = ops.size from by omega] at hup
            rw [hup]
            simp only [valN, hd, beq_self_eq_true, Bool.or_true, Bool.and_self, if_true]
            have hod : o.dst = some t := by rw [← c3, hyd]
            have htlt : t < nt := by
              rw [hod] at c4
              simp only [dstOk, Bool.and_eq_true, Nat.blt_eq] at c4
              omega
            rw [hod]
            simp only [Act.put, Array.getD_eq_getD_getElem?, Array.getElem?_setIfInBounds_self_of_lt (show t < a2.tmps.size by omega), Option.getD_some]
            exact hv
          | false =>
            rw [valN_same (L' := L) ops.size fun m _ hm => by
              by_cases e : m = i
              · rw [e] at hm; rw [hm] at hd; cases hd
              · have : (m == i) = false := by simpa using e
                rw [this, Bool.or_false]]
            have hne : o.dst ≠ some t := by
              intro e
              rw [← c3] at e
              unfold dstIs at hd
              rw [h1] at hd
              simp [e] at hd
            have : (a2.put o.dst v).tmps.getD t undef = a2.tmps.getD t undef := by
              cases hod : o.dst with
              | none => rfl
              | some d =>
                have : d ≠ t := fun e => hne (by rw [hod, e])
                simp only [Act.put, Array.getD_eq_getD_getElem?, Array.getElem?_setIfInBounds_ne this]
            rw [this]
            exact hvt
        obtain ⟨_, hks1, hst⟩ := hstep i x h2
        by_cases hpend : pend L
        · -- the early one has come up, and waits
          obtain ⟨j1, u, hj1, hn1, hd1, hpd, hv1, hu1⟩ := hinv.2 hpend
          obtain ⟨hLp, q0, y0, hq0, hy0, hya0, hLq0⟩ := hpend
          have hip : i < p := by
            rcases Nat.lt_trichotomy i p with h | h | h
            · exact h
            · rw [h, hLp] at hLi; cases hLi
            · have := (hbehind i mi h h3).2 q0 y0 hq0 hy0 hya0
              rw [hbits q0 this] at hLq0; cases hLq0
          have hmpi : bit mp i = false := by
            cases hb : bit mp i with
            | false => rfl
            | true => rw [hdown p mp i hLp hmp hb] at hLi; cases hLi
          obtain ⟨hsel, hfr⟩ := hfree i o hip hmpi ho
          have hnof : ∀ d, f.d = some d → x0.names.contains d = false := (later p hip hLp f hf).2.1
          -- the slot of the early one is not looked at
          have hsz2 : (a1.put f.d undef).tmps.size = nt := by rw [put_size]; exact hn1
          have hv2 : ∀ t, RV μ j1 (if f.d = some t then undefA else valN l0 vs τ L t ops.size) ((a1.put f.d undef).tmps.getD t undef) := by
            intro t
            by_cases e : f.d = some t
            · rw [if_pos e, e]
              simp only [Act.put, Array.getD_eq_getD_getElem?]
              by_cases hlt : t < a1.tmps.size
              · rw [Array.getElem?_setIfInBounds_self_of_lt hlt]; exact ⟨#[], rfl, rfl⟩
              · rw [Array.getElem?_eq_none (by simp; omega)]; exact ⟨#[], rfl, rfl⟩
            · rw [if_neg e]
              have : (a1.put f.d undef).tmps.getD t undef = a1.tmps.getD t undef := by
                cases hod : f.d with
                | none => rfl
                | some d =>
                  have : d ≠ t := fun e' => e (by rw [hod, e'])
                  simp only [Act.put, Array.getD_eq_getD_getElem?, Array.getElem?_setIfInBounds_ne this]
              rw [this]
              exact hv1 t e
          obtain ⟨hev, ht2⟩ := tab_ok (a1.put f.d undef) j1 _ hsz2 hv2
          generalize htx : tabT (fun t => if f.d = some t then undefA else valN l0 vs τ L t ops.size) nt = τx at hev ht2
          have hlooks : ∀ t, t ∈ x0.looks → (X.t t).ev τx = (X.t t).ev (τs i) := by
            intro t hl
            have htn : x0.names.contains t = true := by simp [O.names, hl]
            rw [hev, if_neg (fun e => by rw [hnof t e] at htn; cases htn), seen t htn]
          have hopeq : execOp a1.eval o = execOp (a1.put f.d undef).eval o := by
            refine execOp_congr o hsel fun y hy => ?_
            have hfy := hfr y hy
            cases y with
            | tmp t =>
              cases hod : f.d with
              | none => rfl
              | some d =>
                rw [hod] at hfy
                have hne : d ≠ t := by
                  intro e
                  subst e
                  simp [freeOf] at hfy
                show a1.tmps.getD t undef = (a1.tmps.setIfInBounds d undef).getD t undef
                simp only [Array.getD_eq_getD_getElem?, Array.getElem?_setIfInBounds_ne hne]
            | const v => rfl
            | func g => rfl
            | global g => rfl
          have hcntX : cntL l0 (fun q => (L q || q == i) && !(q == p)) 0 = cntL l0 (fun q => L q && !(q == p)) 0 + x0.c.acts.toNat := by
            have := cntL_add (f := fun q => L q && !(q == p)) l0 0 i x0 h1 (by rw [Nat.zero_add, hLi]; rfl)
            rw [Nat.zero_add] at this
            rw [← this]
            refine cntL_congr l0 0 fun q y _ _ => ?_
            rw [Nat.zero_add]
            by_cases e : q = i
            · subst e
              have : (q == p) = false := by simp; omega
              rw [this]; simp
            · have : (q == i) = false := by simpa using e
              rw [this, Bool.or_false, Bool.or_false]
          have hLp' : (fun q => L q || q == i) p = true := by show (L p || p == i) = true; rw [hLp]; rfl
          -- where it is left, in either way
          have fin : ∀ (j2 : J) (v : Value) (w2 : World), j1.le j2 → RV μ j2 (vs i) v → pd.Pend j2 (cntL l0 (fun q => L q && !(q == p)) 0 + x0.c.acts.toNat) u w2 → K (a1.put o.dst v) w2 := by
            intro j2 v w2 hj2 hv hpd2
            have hslots : ∀ t, f.d ≠ some t → RV μ j2 (valN l0 vs τ (fun q => L q || q == i) t ops.size) ((a1.put o.dst v).tmps.getD t undef) :=
              fun t ht => hval j2 v a1 hn1 hv t ((hv1 t ht).mono hj2)
            have hslotp : ∀ t, f.d = some t → (a1.put o.dst v).tmps.getD t undef = u := by
              intro t ht
              have hne : o.dst ≠ some t := by
                intro e
                rw [← c3] at e
                have := hnof t ht
                simp [O.names, e] at this
              have : (a1.put o.dst v).tmps.getD t undef = a1.tmps.getD t undef := by
                cases hod : o.dst with
                | none => rfl
                | some d =>
                  have : d ≠ t := fun e => hne (by rw [hod, e])
                  simp only [Act.put, Array.getD_eq_getD_getElem?, Array.getElem?_setIfInBounds_ne this]
              rw [this]; exact hu1 t ht
            refine hK _ _ ⟨fun hnp => ?_, fun hp2 => ?_⟩
            · -- all ahead of it have come up
              have hall : ∀ (q : Nat) (y : O), q < p → l0[q]? = some y → y.c.acts = true → (L q || q == i) = true := by
                intro q y hq hy hya
                cases hb : (L q || q == i) with
                | true => rfl
                | false => exact (hnp ⟨hLp', q, y, hq, hy, hya, hb⟩).elim
              have hbeh : ∀ (q : Nat) (y : O), p < q → l0[q]? = some y → L q = false := by
                intro q y hq hy
                cases hLq : L q with
                | false => rfl
                | true =>
                  obtain ⟨mq, hmq⟩ : ∃ mq, ms[q]? = some mq := ⟨ms[q]'(by rw [← hlenms]; exact (List.getElem?_eq_some_iff.1 hy).1), List.getElem?_eq_getElem _⟩
                  have := (hbehind q mq hq hmq).2 q0 y0 hq0 hy0 hya0
                  rw [hdown q mq q0 hLq hmq this] at hLq0; cases hLq0
              have hks : cntL l0 (fun q => L q && !(q == p)) 0 + x0.c.acts.toNat = ks p := by
                rw [← hcntX, hkst p (by omega)]
                refine cntL_congr l0 0 fun q y hy hya => ?_
                rw [Nat.zero_add]
                rcases Nat.lt_trichotomy q p with h | h | h
                · rw [hall q y h hy hya]
                  have e1 : (q == p) = false := by simp; omega
                  rw [e1]; simp [h]
                · subst h; simp
                · rw [hbeh q y h hy]
                  have e1 : (q == i) = false := by simp; omega
                  rw [e1]
                  simp; omega
              rw [hks] at hpd2
              obtain ⟨j3, hj3, hr3, hu3⟩ := pd.leave j2 u w2 hpd2
              refine ⟨j3, (hj1.trans hj2).trans hj3, by rw [put_size]; exact hn1, by rw [put_defers]; exact hd1, ?_, fun t => ?_⟩
              · have hc2 : cntL l0 (fun q => L q || q == i) 0 = ks p + 1 := by
                  have hadd := cntL_add (f := fun q => (L q || q == i) && !(q == p)) l0 0 p f hf (by simp)
                  rw [Nat.zero_add, hcntX, hks, hfacts] at hadd
                  have e2 : cntL l0 (fun q => (L q || q == i) && !(q == p) || q == p) 0 = cntL l0 (fun q => L q || q == i) 0 := by
                    refine cntL_congr l0 0 fun q y _ _ => ?_
                    rw [Nat.zero_add]
                    by_cases e : q = p
                    · subst e
                      have : (L q || q == i) = true := hLp'
                      rw [this]; simp
                    · have : (q == p) = false := by simpa using e
                      rw [this]; simp
                  rw [← e2, hadd]; rfl
                rw [hc2]; exact hr3
              · by_cases e : f.d = some t
                · rw [hslotp t e]
                  have hup := valN_above (l := l0) (vs := vs) (τ := τ) (L := fun q => L q || q == i) (t := t) (p + 1) (ops.size - (p + 1)) fun m h1' h2' => by
                    obtain ⟨y, hy⟩ : ∃ y, l0[m]? = some y := ⟨l0[m]'(by rw [hn0]; omega), List.getElem?_eq_getElem _⟩
                    rw [hbeh m y (by omega) hy]
                    have e1 : (m == i) = false := by simp; omega
                    rw [e1]; rfl
                  rw [show p + 1 + (ops.size - (p + 1)) = ops.size from by omega] at hup
                  rw [hup]
                  have hdp : dstIs l0 p t = true := by
                    unfold dstIs
                    rw [hf]
                    simp [e]
                  have : ((L p || p == i) && dstIs l0 p t) = true := by rw [hdp, hLp]; rfl
                  simp only [valN, this, if_true]
                  exact hu3
                · exact (hslots t e).mono hj3
            · exact ⟨j2, u, hj1.trans hj2, by rw [put_size]; exact hn1, by rw [put_defers]; exact hd1, by rw [hcntX]; exact hpd2, hslots, hslotp⟩
          have hinj : ∀ v v', (a1.put f.d undef).put o.dst v = (a1.put f.d undef).put o.dst v' → a1.put o.dst v = a1.put o.dst v' := fun v v' h => put_inj (by rw [hsz2, hn1]) h
          unfold wpOp
          rw [ho]
          simp only
          have hgr : Region.wanted o (yielded ops a1.tmps) = Region.wanted o (yielded ops (a1.put f.d undef).tmps) := by
            cases hg0 : o.guard with
            | none => unfold Region.wanted; rw [hg0]
            | some g0 =>
              obtain ⟨jj, want⟩ := g0
              unfold Region.wanted
              rw [hg0]
              simp only
              have : yielded ops a1.tmps jj = yielded ops (a1.put f.d undef).tmps jj := by
                unfold yielded
                cases hoj : ops[jj]? with
                | none => rfl
                | some oj =>
                  simp only [Option.bind_some]
                  cases hdj : oj.dst with
                  | none => simp only [Option.bind_none]
                  | some dj =>
                    simp only [Option.bind_some]
                    have hgl : dj ∈ x0.looks := by
                      have c2' := c2
                      unfold guardA at c2'
                      rw [hg0] at c2'
                      simp only [hoj, hdj] at c2'
                      cases hxg : x0.g with
                      | none => rw [hxg] at c2'; cases c2'
                      | some g1 =>
                        rw [hxg] at c2'
                        simp only [Option.some.injEq] at c2'
                        subst c2'
                        simp [O.looks, hxg, gtm]
                    have hne : f.d ≠ some dj := by
                      intro e
                      have := hnof dj e
                      simp [O.names, hgl] at this
                    cases hod : f.d with
                    | none => rfl
                    | some d =>
                      have : d ≠ dj := fun e => hne (by rw [hod, e])
                      simp only [Act.put, Array.getElem?_setIfInBounds_ne this]
              rw [this]
          rw [hgr]
          cases hact : x0.c.acts with
          | true =>
            have hgn := hguard i x0 hip hmpi h1 hact
            have hki : cntL l0 (fun q => L q && !(q == p)) 0 = ks i := by
              rw [hkst i (by omega)]
              refine cntL_congr l0 0 fun q y hy hya => ?_
              rw [Nat.zero_add]
              rcases Nat.lt_trichotomy q i with hlt | rfl | hgt
              · rw [show decide (q < i) = true by simpa using hlt]
                have e1 : (q == p) = false := by simp; omega
                cases hLq : L q with
                | true => rw [e1]; rfl
                | false =>
                  rcases (earlier q hlt hLq y hy).1 with this | this
                  · rw [hya, hact] at this; cases this
                  · omega
              · rw [hLi]; simp
              · rw [show decide (q < i) = false by simp; omega]
                cases hLq : L q with
                | false => rfl
                | true =>
                  rcases (later q hgt hLq y hy).1 with this | this
                  · rw [hya, hact] at this; cases this
                  · subst this; simp
            rcases hst with ⟨hw, hst⟩ | ⟨hw, _, _⟩
            · rcases hst with ⟨ha, hex⟩ | ⟨ha, _⟩
              · rw [if_pos (guard_ok c2 rfl ht2 (by rw [hwant_of τx hlooks]; exact hw))]
                left
                rw [hki] at hpd fin
                have hks1' : ks i + x0.c.acts.toNat = ks i + 1 := by rw [hact]; rfl
                refine wp_surg (R := fun v w2 => ∃ j2, j1.le j2 ∧ RV μ j2 (vs i) v ∧ pd.Pend j2 (ks i + 1) u w2) hopeq (by rw [put_defers]) hinj ?_ K Q ?_
                · intro K' Q' hk'
                  exact pd.act i o x0 hip ho h1 hact hmpi (by rw [← c1]) j1 u _ w1 τx hpd ht2 (by rw [hexec_of τx hlooks]; exact hex) (fun t h => hlooks t h) K' Q' fun j2 v w2 hj2 hv hp2 => hk' v w2 ⟨j2, hj2, hv, hp2⟩
                · intro v w2 ⟨j2, hj2, hv, hp2⟩
                  exact fin j2 v w2 hj2 hv (by rw [hks1']; exact hp2)
              · rw [h4, hact] at ha; cases ha
            · rw [← hwant_of τx hlooks, hgn] at hw; cases hw
          | false =>
            rcases hst with ⟨hw, hst⟩ | ⟨hw, hvu, _⟩
            · rcases hst with ⟨ha, _⟩ | ⟨ha, ⟨σ1, hex⟩, hstab⟩
              · rw [h4, hact] at ha; cases ha
              · rw [if_pos (guard_ok c2 rfl ht2 (by rw [hwant_of τx hlooks]; exact hw))]
                left
                have hsame : execA call x.c (τs i) (S (cntL l0 (fun q => L q && !(q == p)) 0)) = some (vs i, S (cntL l0 (fun q => L q && !(q == p)) 0)) := by
                  cases hrd : x.c.reads with
                  | false => exact (exec_any hex ha hrd).2 _
                  | true =>
                    have hrd0 : x0.c.reads = true := by rw [← h4]; exact hrd
                    refine (exec_reads hex hrd).2 _ (hstab _ _ (h8 hrd0) _ ?_ ?_ ?_)
                    · rw [loOf_eq]
                      refine cntL_mono l0 0 fun q y hy _ hb => ?_
                      rw [Nat.zero_add] at hb ⊢
                      rw [hbits q hb]
                      have : (q == p) = false := by
                        cases hqp : (q == p) with
                        | false => rfl
                        | true =>
                          have : q = p := by simpa using hqp
                          subst this
                          have hed := hearly i o mi ho h3 q hb
                          omega
                      rw [this]; rfl
                    · rw [hiOf_eq i ms l0 ms 0 rfl hlenms]
                      refine cntL_mono l0 0 fun q y hy _ hLq => ?_
                      rw [Nat.zero_add] at hLq ⊢
                      simp only [Bool.and_eq_true] at hLq
                      obtain ⟨mm, hmm⟩ : ∃ mm, ms[q]? = some mm := ⟨ms[q]'(by rw [← hlenms]; exact (List.getElem?_eq_some_iff.1 hy).1), List.getElem?_eq_getElem _⟩
                      rw [List.getD_eq_getElem?_getD, hmm, Option.getD_some]
                      cases hb : bit mm i with
                      | false => rfl
                      | true => rw [hdown _ _ _ hLq.1 hmm hb] at hLi; cases hLi
                    · have hkn := hkst ops.size (Nat.le_refl _)
                      rw [kn] at hkn
                      rw [hkn]
                      refine cntL_mono l0 0 fun q y hy _ _ => ?_
                      have := (List.getElem?_eq_some_iff.1 hy).1
                      simp; omega
                have hk0 : cntL l0 (fun q => L q && !(q == p)) 0 + x0.c.acts.toNat = cntL l0 (fun q => L q && !(q == p)) 0 := by rw [hact]; rfl
                refine wp_surg (R := fun v w2 => ∃ j2, j1.le j2 ∧ RV μ j2 (vs i) v ∧ pd.Pend j2 (cntL l0 (fun q => L q && !(q == p)) 0) u w2) hopeq (by rw [put_defers]) hinj ?_ K Q ?_
                · intro K' Q' hk'
                  exact pd.still i o x0 hip ho h1 hact hmpi (by rw [← c1]) j1 u _ w1 τx _ hpd ht2 (by rw [hexec_of τx hlooks]; exact hsame) K' Q' fun j2 v w2 hj2 hv hp2 => hk' v w2 ⟨j2, hj2, hv, hp2⟩
                · intro v w2 ⟨j2, hj2, hv, hp2⟩
                  exact fin j2 v w2 hj2 hv (by rw [hk0]; exact hp2)
            · rw [if_neg (by rw [guard_ok c2 rfl ht2 (by rw [hwant_of τx hlooks]; exact hw)]; simp)]
              refine fin j1 undef w1 (J.le.refl _) (by rw [hvu]; exact ⟨#[], rfl, rfl⟩) ?_
              rw [hact]; exact hpd
        · obtain ⟨j1, hj1, hn1, hd1, hr1, hv1⟩ := hinv.1 hpend
          obtain ⟨hev, ht1⟩ := tab_ok a1 j1 _ hn1 hv1
          generalize htx : tabT (fun t => valN l0 vs τ L t ops.size) nt = τx at hev ht1
          have hlooks : ∀ t, t ∈ x0.looks → (X.t t).ev τx = (X.t t).ev (τs i) := by
            intro t hl
            rw [hev, seen t (by simp [O.names, hl])]
          by_cases hmiss : i = p ∧ ∃ (q : Nat) (y : O), q < p ∧ l0[q]? = some y ∧ y.c.acts = true ∧ L q = false
          · -- the early one comes up
            obtain ⟨rfl, q1, y1, hq1, hy1, hya1, hLq1⟩ := hmiss
            have hff : x0 = f := by rw [hf] at h1; cases h1; rfl
            subst hff
            have hmm : mi = mp := by rw [h3] at hmp; cases hmp; rfl
            subst hmm
            -- the first one that has not come up
            obtain ⟨⟨y2, hi1, hy2, hya2, hLi1⟩, hleast⟩ := leastOf_spec (p := fun q => ∃ y, q < i ∧ l0[q]? = some y ∧ y.c.acts = true ∧ L q = false) ⟨q1, y1, hq1, hy1, hya1, hLq1⟩
            generalize leastOf (fun q => ∃ y, q < i ∧ l0[q]? = some y ∧ y.c.acts = true ∧ L q = false) = i1 at hi1 hy2 hya2 hLi1 hleast
            obtain ⟨m1, hm1⟩ : ∃ m1, ms[i1]? = some m1 := ⟨ms[i1]'(by rw [← hlenms]; exact (List.getElem?_eq_some_iff.1 hy2).1), List.getElem?_eq_getElem _⟩
            have hoff : ∀ (q : Nat) (y : O), i1 < q → l0[q]? = some y → y.c.acts = true → L q = false := by
              intro q y hq hy hya
              cases hLq : L q with
              | false => rfl
              | true =>
                have hqi : q ≠ i := by rintro rfl; rw [hLi] at hLq; cases hLq
                obtain ⟨mq, hmq⟩ : ∃ mq, ms[q]? = some mq := ⟨ms[q]'(by rw [← hlenms]; exact (List.getElem?_eq_some_iff.1 hy).1), List.getElem?_eq_getElem _⟩
                rcases hpair i1 q y2 y mq hq hy2 hy hmq with hb | ⟨hb, _⟩
                · rw [hdown q mq i1 hLq hmq hb] at hLi1; cases hLi1
                · rcases hb with hb | hb
                  · rw [hya, hya2] at hb; cases hb
                  · exact (hqi hb).elim
            have hk1 : cntL l0 L 0 = ks i1 := by
              rw [hkst i1 (by omega)]
              refine cntL_congr l0 0 fun q y hy hya => ?_
              rw [Nat.zero_add]
              rcases Nat.lt_trichotomy q i1 with hlt | rfl | hgt
              · rw [show decide (q < i1) = true by simpa using hlt]
                cases hLq : L q with
                | true => rfl
                | false => have := hleast q ⟨y, by omega, hy, hya, hLq⟩; omega
              · rw [hLi1]; simp
              · rw [show decide (q < i1) = false by simp; omega, hoff q y hgt hy hya]
            unfold wpOp
            rw [ho]
            simp only
            rcases hst with ⟨hw, _⟩ | ⟨hw, _, _⟩
            · rw [if_pos (guard_ok c2 rfl ht1 (by rw [hwant_of τx hlooks]; exact hw))]
              left
              rw [hk1] at hr1
              refine pd.enter o ho (by rw [← c1]) j1 a1 w1 τx i1 hi1 hr1 ht1 hlooks ?_ K Q fun j2 v w2 hj2 hp2 => hK _ _ ⟨fun hnp => ?_, fun _ => ?_⟩
              · intro q y hq hqp hy hya
                cases hb : bit mi q with
                | false => rfl
                | true =>
                  have := hbits q hb
                  rcases Nat.lt_or_ge i1 q with h | h
                  · rw [hoff q y h hy hya] at this; cases this
                  · obtain rfl : q = i1 := by omega
                    rw [hLi1] at this; cases this
              · refine (hnp ⟨by simp, q1, y1, hq1, hy1, hya1, ?_⟩).elim
                have : (q1 == i) = false := by simp; omega
                show (L q1 || q1 == i) = false
                rw [this, hLq1]; rfl
              · refine ⟨j2, v, hj1.trans hj2, by rw [put_size]; exact hn1, by rw [put_defers]; exact hd1, ?_, fun t ht => ?_, fun t ht => ?_⟩
                · have : cntL l0 (fun q => (L q || q == i) && !(q == i)) 0 = ks i1 := by
                    rw [← hk1]
                    refine cntL_congr l0 0 fun q y _ _ => ?_
                    rw [Nat.zero_add]
                    by_cases e : q = i
                    · subst e; rw [hLi]; simp
                    · have : (q == i) = false := by simpa using e
                      rw [this]; simp
                  rw [this]; exact hp2
                · rw [valN_same (L' := L) ops.size fun m _ hm => by
                    by_cases e : m = i
                    · subst e
                      obtain ⟨y, hy, hyd⟩ := dis m t hm
                      rw [h1] at hy; cases hy
                      exact (ht hyd).elim
                    · have : (m == i) = false := by simpa using e
                      rw [this, Bool.or_false]]
                  have hne : o.dst ≠ some t := by rw [← c3]; exact ht
                  have : (a1.put o.dst v).tmps.getD t undef = a1.tmps.getD t undef := by
                    cases hod : o.dst with
                    | none => rfl
                    | some d =>
                      have : d ≠ t := fun e => hne (by rw [hod, e])
                      simp only [Act.put, Array.getD_eq_getD_getElem?, Array.getElem?_setIfInBounds_ne this]
                  rw [this]; exact (hv1 t).mono hj2
                · have hod : o.dst = some t := by rw [← c3]; exact ht
                  have htlt : t < nt := by
                    rw [hod] at c4
                    simp only [dstOk, Bool.and_eq_true, Nat.blt_eq] at c4
                    omega
                  rw [hod]
                  simp only [Act.put, Array.getD_eq_getD_getElem?, Array.getElem?_setIfInBounds_self_of_lt (show t < a1.tmps.size by omega), Option.getD_some]
            · rw [← hwant_of τx hlooks, hfg] at hw; cases hw
          · -- as in any other region
            have hnp' : ¬ pend (fun q => L q || q == i) := by
              rintro ⟨h1', q, y, hq, hy, hya, hLq⟩
              have hLq' : L q = false := by
                cases h : L q with
                | false => rfl
                | true => simp [h] at hLq
              by_cases e : i = p
              · exact hmiss ⟨e, q, y, hq, hy, hya, hLq'⟩
              · have : (p == i) = false := by simp; omega
                simp only [this, Bool.or_false] at h1'
                exact hpend ⟨h1', q, y, hq, hy, hya, hLq'⟩
            have fin : ∀ (j2 : J) (v : Value) (w2 : World), j1.le j2 → RV μ j2 (vs i) v → Rel μ B w0 j2 (S (cntL l0 L 0 + x0.c.acts.toNat)) w2 → K (a1.put o.dst v) w2 := by
              intro j2 v w2 hj2 hv hr2
              refine hK _ _ ⟨fun _ => ⟨j2, hj1.trans hj2, by rw [put_size]; exact hn1, by rw [put_defers]; exact hd1, by rw [hcnt]; exact hr2, fun t => hval j2 v a1 hn1 hv t ((hv1 t).mono hj2)⟩, fun h => (hnp' h).elim⟩
            have hacts : x0.c.acts = true → cntL l0 L 0 = ks i := by
              intro ha
              rw [hkst i (by omega)]
              refine cntL_congr l0 0 fun q y hy hya => ?_
              rw [Nat.zero_add]
              rcases Nat.lt_trichotomy q i with hlt | rfl | hgt
              · rw [show decide (q < i) = true by simpa using hlt]
                cases hLq : L q with
                | true => rfl
                | false =>
                  rcases (earlier q hlt hLq y hy).1 with this | this
                  · rw [hya, ha] at this
                    cases this
                  · exact (hmiss ⟨this, q, y, by omega, hy, hya, hLq⟩).elim
              · rw [hLi]; simp
              · rw [show decide (q < i) = false by simp; omega]
                cases hLq : L q with
                | false => rfl
                | true =>
                  rcases (later q hgt hLq y hy).1 with this | this
                  · rw [hya, ha] at this
                    cases this
                  · subst this
                    exact (hpend ⟨hLq, i, x0, hgt, h1, ha, hLi⟩).elim
            unfold wpOp
            rw [ho]
            simp only
            rcases hst with ⟨hw, hst⟩ | ⟨hw, hvu, hoff⟩
            · rw [if_pos (guard_ok c2 rfl ht1 (by rw [hwant_of τx hlooks]; exact hw))]
              left
              rcases hst with ⟨ha, hex⟩ | ⟨ha, ⟨σ1, hex⟩, hstab⟩
              · have ha0 : x0.c.acts = true := by rw [← h4]; exact ha
                have hk := hacts ha0
                refine exec_ok hμ (hk ▸ hr1) ht1 hcall c1 (by rw [hexec_of τx hlooks]; exact hex) K Q fun j2 v w2 hj2 hv hr2 => fin j2 v w2 hj2 hv ?_
                rw [hk, ha0]; exact hr2
              · have ha0 : x0.c.acts = false := by rw [← h4]; exact ha
                have hsame : execA call x.c (τs i) (S (cntL l0 L 0)) = some (vs i, S (cntL l0 L 0)) := by
                  cases hrd : x.c.reads with
                  | false => exact (exec_any hex ha hrd).2 _
                  | true =>
                    have hrd0 : x0.c.reads = true := by rw [← h4]; exact hrd
                    refine (exec_reads hex hrd).2 _ (hstab _ _ (h8 hrd0) _ ?_ ?_ ?_)
                    · rw [loOf_eq]
                      exact cntL_mono l0 0 fun q y _ _ hb => by rw [Nat.zero_add] at hb ⊢; exact hbits q hb
                    · rw [hiOf_eq i ms l0 ms 0 rfl hlenms]
                      refine cntL_mono l0 0 fun q y hy _ hLq => ?_
                      rw [Nat.zero_add] at hLq ⊢
                      obtain ⟨mm, hmm⟩ : ∃ mm, ms[q]? = some mm := ⟨ms[q]'(by rw [← hlenms]; exact (List.getElem?_eq_some_iff.1 hy).1), List.getElem?_eq_getElem _⟩
                      rw [List.getD_eq_getElem?_getD, hmm, Option.getD_some]
                      cases hb : bit mm i with
                      | false => rfl
                      | true => rw [hdown _ _ _ hLq hmm hb] at hLi; cases hLi
                    · have hkn := hkst ops.size (Nat.le_refl _)
                      rw [kn] at hkn
                      rw [hkn]
                      refine cntL_mono l0 0 fun q y hy _ _ => ?_
                      have := (List.getElem?_eq_some_iff.1 hy).1
                      simp; omega
                refine exec_ok hμ hr1 ht1 hcall c1 (by rw [hexec_of τx hlooks]; exact hsame) K Q fun j2 v w2 hj2 hv hr2 => fin j2 v w2 hj2 hv ?_
                rw [ha0]; exact hr2
            · rw [if_neg (by rw [guard_ok c2 rfl ht1 (by rw [hwant_of τx hlooks]; exact hw)]; simp)]
              refine fin j1 undef w1 (J.le.refl _) (by rw [hvu]; exact ⟨#[], rfl, rfl⟩) ?_
              cases ha : x0.c.acts with
              | false => exact hr1
              | true =>
                have hk := hacts ha
                have hSS := hoff (by rw [h4]; exact ha)
                rw [hk] at hr1 ⊢
                show Rel μ B w0 j1 (S (ks i + 1)) w1
                rw [hSS]; exact hr1
      have main : ∀ (fuel : Nat) (listed : Array Bool) (a1 : Act) (w1 : World), listed.size = ops.size → unl (fun q => listed.getD q false) ops.size ≤ fuel → Inv (fun q => listed.getD q false) a1 w1 → Down (fun q => listed.getD q false) → wpAny P .any ops Q fuel listed a1 w1 := by
        -- where nothing is ready, all have come up
        have alldone : ∀ listed : Array Bool, listed.size = ops.size → Region.ready .any ops listed = [] → ∀ i, i < ops.size → listed.getD i false = true := by
          intro listed hsz hnil i
          induction i using Nat.strongRecOn with
          | ind i ih =>
            intro hi
            cases hLi : listed.getD i false with
            | true => rfl
            | false =>
              have hmem : i ∈ Region.ready .any ops listed := by
                rw [mem_ready]
                refine ⟨?_, ops[i], Array.getElem?_eq_getElem hi, fun e he hb => ?_⟩
                · have : i < listed.size := by omega
                  simp only [Array.getD_eq_getD_getElem?, Array.getElem?_eq_getElem this, Option.getD_some] at hLi ⊢
                  exact hLi
                · have := edges_ok ops.toList 0 hedge i ops[i] (by simp [hi]) e (by simpa using he) hb
                  exact ih e.on (by omega) (by omega)
              rw [hnil] at hmem
              cases hmem
        have finish : ∀ (listed : Array Bool) (a1 : Act) (w1 : World), (∀ i, i < ops.size → listed.getD i false = true) → Inv (fun q => listed.getD q false) a1 w1 → Q .normal a1 w1 := by
          intro listed a1 w1 hall hinv
          obtain ⟨j1, hj1, hn1, hd1, hr1, hv1⟩ := hinv.1 (by
            rintro ⟨_, q, y, hq, _, _, hLq⟩
            have hLq' : listed.getD q false = false := hLq
            rw [hall q (by omega)] at hLq'; cases hLq')
          have hcn : cntL l0 (fun q => listed.getD q false) 0 = N := by
            rw [← kn, hkst ops.size (Nat.le_refl _)]
            refine cntL_congr l0 0 fun q y hy _ => ?_
            have hq' : q < ops.size := by rw [← hn0]; exact (List.getElem?_eq_some_iff.1 hy).1
            rw [Nat.zero_add, hall q hq']
            simpa using hq'
          rw [hcn] at hr1
          rw [← hσ'] at hr1
          refine hq j1 a1 w1 hj1 (fun t => ?_) hr1 hn1 hd1
          rw [← en, valN_lex e0 hdst ops.size (by omega)]
          rw [← valN_same (L := fun q => listed.getD q false) ops.size fun m hm _ => hall m hm]
          exact hv1 t
        intro fuel
        induction fuel with
        | zero =>
          intro listed a1 w1 hsz hun hinv hdown
          have hall := unl_zero (L := fun q => listed.getD q false) ops.size (by omega)
          refine ⟨?_, finish listed a1 w1 hall hinv⟩
          cases hrd : Region.ready .any ops listed with
          | nil => rfl
          | cons i r =>
            have hmem : i ∈ Region.ready .any ops listed := by rw [hrd]; simp
            obtain ⟨h1, o, ho, _⟩ := mem_ready.1 hmem
            have hi : i < ops.size := (Array.getElem?_eq_some_iff.1 ho).1
            have := hall i hi
            simp only [Array.getD_eq_getD_getElem?, Array.getElem?_eq_getElem (show i < listed.size by omega), Option.getD_some] at this h1
            rw [h1] at this; cases this
        | succ fuel ih =>
          intro listed a1 w1 hsz hun hinv hdown
          refine ⟨fun hnil => finish listed a1 w1 (alldone listed hsz hnil) hinv, fun i hmem => ?_⟩
          obtain ⟨h1, o, ho, h2⟩ := mem_ready.1 hmem
          have hi : i < ops.size := (Array.getElem?_eq_some_iff.1 ho).1
          have hLi : listed.getD i false = false := by
            simp only [Array.getD_eq_getD_getElem?, Array.getElem?_eq_getElem (show i < listed.size by omega), Option.getD_some] at h1 ⊢
            exact h1
          have hset : (fun q => (listed.setIfInBounds i true).getD q false) = fun q => listed.getD q false || q == i := by
            funext q
            by_cases e : q = i
            · subst e
              simp only [Array.getD_eq_getD_getElem?, Array.getElem?_setIfInBounds_self_of_lt (show q < listed.size by omega), Option.getD_some, beq_self_eq_true, Bool.or_true]
            · have e2 : (q == i) = false := by simpa using e
              simp only [Array.getD_eq_getD_getElem?, Array.getElem?_setIfInBounds_ne (Ne.symm e), e2, Bool.or_false]
          refine step (fun q => listed.getD q false) a1 w1 i o _ hinv hdown hLi ho h2 fun a2 w2 hinv2 => ?_
          refine ih (listed.setIfInBounds i true) a2 w2 (by simpa using hsz) ?_ (by rw [hset]; exact hinv2) ?_
          · rw [hset]
            have := unl_add (L := fun q => listed.getD q false) hLi ops.size hi
            omega
          · rw [hset]
            intro i2 m2 p hL2 hm2 hb2
            simp only [Bool.or_eq_true, beq_iff_eq] at hL2 ⊢
            left
            rcases hL2 with hL2 | rfl
            · exact hdown i2 m2 p hL2 hm2 hb2
            · obtain ⟨e, he, hbd, h⟩ := masks_ok ops.toList [] i2 o m2 (by simpa using ho) (by rw [hmsv]; simpa using hm2) p hb2
              have hLe := h2 e (by simpa using he) hbd
              rcases h with rfl | ⟨m', hm', hp'⟩
              · exact hLe
              · rw [hmsv] at hm'
                exact hdown _ _ _ hLe hm' hp'
      refine wp_region_any hmix (main ops.size _ a _ (by simp) ?_ ?_ ?_)
      · have aux : ∀ (L : Nat → Bool) (n : Nat), unl L n ≤ n := by
          intro L n
          induction n with
          | zero => exact Nat.le_refl _
          | succ n ih =>
            simp only [unl]
            have : (!L n).toNat ≤ 1 := Bool.toNat_le _
            omega
        exact aux _ _
      · have hfalse : (fun q => (Array.replicate ops.size false).getD q false) = fun _ => false := by
          funext q
          simp only [Array.getD_eq_getD_getElem?, Array.getElem?_replicate]
          split <;> rfl
        rw [hfalse]
        have hc0 : cntL l0 (fun _ => false) 0 = 0 := by
          have aux : ∀ (m : List O) (k : Nat), cntL m (fun _ => false) k = 0 := by
            intro m
            induction m with
            | nil => intro k; rfl
            | cons y r ih => intro k; simp only [cntL, ih]; simp
          exact aux l0 0
        refine ⟨fun _ => ?_, fun h => by cases h.1⟩
        refine ⟨j, J.le.refl _, hn, rfl, by rw [hc0, hS00]; exact hr.drew, fun t => ?_⟩
        have : valN l0 vs τ (fun _ => false) t ops.size = (X.t t).ev τ := by
          have := valN_above (l := l0) (vs := vs) (τ := τ) (L := fun _ => false) (t := t) 0 ops.size fun m _ _ => rfl
          rw [Nat.zero_add] at this
          exact this
        rw [this]
        exact ht t
      · have hfalse : (fun q => (Array.replicate ops.size false).getD q false) = fun _ => false := by
          funext q
          simp only [Array.getD_eq_getD_getElem?, Array.getElem?_replicate]
          split <;> rfl
        rw [hfalse]
        intro i m p h
        cases h
end
end Go.Proofs.YtpflpjkbiopmpaaGreatDoor.Ev
