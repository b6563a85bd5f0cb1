/-
  A region that draws its order, some allocations of which may come early: in every order it leaves what the run in the text's order leaves. No program is named here.
-/
import Derived.Test.YtpflpjkbiopmpaaGreatDoorEvM
set_option linter.unusedVariables false
set_option linter.unusedSimpArgs false
set_option linter.unnecessarySimpa false
set_option linter.all false
namespace Go.Proofs.YtpflpjkbiopmpaaGreatDoor.Ev
open Go Go.RowKit

open Classical in
/-- some slots emptied. -/
noncomputable def hideS (a : Act) (p : Nat → Prop) : Act := ⟨(Array.range a.tmps.size).map fun t => if p t then undef else a.tmps.getD t undef, a.defers⟩
theorem hide_size {a : Act} {p : Nat → Prop} : (hideS a p).tmps.size = a.tmps.size := by simp [hideS]
theorem hide_at {a : Act} {p : Nat → Prop} {t : Nat} (h : p t) : (hideS a p).tmps.getD t undef = undef := by
  unfold hideS
  simp only [Array.getD_eq_getD_getElem?, Array.getElem?_map, Array.getElem?_range]
  by_cases hlt : t < a.tmps.size
  · simp [hlt, h]
  · simp [hlt]
theorem hide_off {a : Act} {p : Nat → Prop} {t : Nat} (h : ¬ p t) : (hideS a p).tmps.getD t undef = a.tmps.getD t undef := by
  unfold hideS
  simp only [Array.getD_eq_getD_getElem?, Array.getElem?_map, Array.getElem?_range]
  by_cases hlt : t < a.tmps.size
  · simp [hlt, h]
  · simp [hlt, Array.getElem?_eq_none (show a.tmps.size ≤ t by omega)]
theorem hide_off? {a : Act} {p : Nat → Prop} {t : Nat} (h : ¬ p t) : (hideS a p).tmps[t]? = a.tmps[t]? := by
  unfold hideS
  simp only [Array.getElem?_map, Array.getElem?_range]
  by_cases hlt : t < a.tmps.size
  · simp [hlt, h, Array.getD_eq_getD_getElem?]
  · simp [hlt]
section
variable {P : Program} {μ : Mu} {B : Nat → Prop} {w0 w : World} {j : J} {σ σ' : Mem} {τ τ' : T} {a : Act}
theorem drawG_core (hμ : Marks μ) {call : CallA} (hcall : CallsOK P μ call) {nt : Nat} {ops : Array Oper} {l l0 : List O} {ms : List Nat} (hl0 : cOpers P nt ops ops.toList = some l0) (hmsv : masks ops.toList [] = ms) (hc : withRd l0 ms l0 ms 0 = l)
    (hedge : edgesOk ops.toList 0 = true) (hnt : nt ≤ 1000000000) (hlenms : l0.length = ms.length) {F : Nat → Bool}
    (hF : ∀ (p : Nat) (f : O), F p = true → l0[p]? = some f → ∃ (e : Nat) (z : List AV) (of : Oper), f.c = .al e z ∧ ops[p]? = some of ∧ of.op = .alloc e ∧ of.guard = none ∧ zeroA P e = some z)
    (hdd : ∀ (p p' : Nat) (f f' : O) (t : Nat), F p = true → F p' = true → l0[p]? = some f → l0[p']? = some f' → f.d = some t → f'.d = some t → p = p')
    (hsel : ∀ (i : Nat) (o : Oper), ops[i]? = some o → ∀ cs b, o.op ≠ .select cs b)
    (hpair : ∀ (i i' : Nat) (x x' : O) (m : Nat), i < i' → l0[i]? = some x → l0[i']? = some x' → ms[i']? = some m → bit m i = true ∨ (((x.c.acts && x'.c.acts) = false ∨ F i = true ∨ F i' = true) ∧ (∀ d, x.d = some d → x'.names.contains d = false) ∧ (∀ d, x'.d = some d → x.names.contains d = false)))
    (hbehind : ∀ (p i m : Nat), F p = true → p < i → F i = false → ms[i]? = some m → bit m p = true ∧ ∀ (q : Nat) (y : O), q < p → l0[q]? = some y → y.c.acts = true → bit m q = true)
    (hfree : ∀ (p i mp : Nat) (f : O) (o : Oper), F p = true → l0[p]? = some f → ms[p]? = some mp → i < p → bit mp i = false → ops[i]? = some o → ∀ x ∈ o.op.operands, freeOf f.d x = true)
    {S : Nat → Mem} {N : Nat} {τs : Nat → T} {vs : Nat → AV} {ks : Nat → Nat} (hS00 : S 0 = σ) (e0 : τs 0 = τ) (k0 : ks 0 = 0) (en : τs ops.size = τ') (kn : ks ops.size = N)
    (hstep : ∀ (i : Nat) (o : O), l[i]? = some o → τs (i + 1) = putA (τs i) o.d (vs i) ∧ ks (i + 1) = ks i + o.c.acts.toNat ∧ StepAt call S N o (τs i) (ks i) (vs i)) (hσ' : σ' = S N)
    (ht : RT μ j τ a) (hr : Rel μ B w0 j σ w) (hn : a.tmps.size = nt) (hmix : P.follows .mixedOrders = true) {Q : Exit → Act → World → Prop} (hq : After μ B w0 j nt a τ' σ' (Q .normal)) {id : Nat} : (Code.region id ops true).wp P Q a w := by
      obtain ⟨hlen0, hops0⟩ := cOpers_nth hl0
      have hn0 : l0.length = ops.size := by simpa using hlen0
      obtain ⟨hlenl, hwith⟩ := withRd_nth l0 ms l0 ms 0 hlenms
      rw [hc] at hlenl hwith
      have hO : ∀ (i : Nat) (o : Oper), ops[i]? = some o → ∃ (x0 x : O) (m : Nat), l0[i]? = some x0 ∧ l[i]? = some x ∧ ms[i]? = some m ∧ x.c = x0.c ∧ x.d = x0.d ∧ x.g = x0.g ∧ cOper P nt ops o = some x0 ∧ (x0.c.reads = true → x.rd = some (loOf m l0 0, hiOf i l0 ms)) := by
        intro i o ho
        obtain ⟨x0, h1, h2⟩ := hops0 i o (by simpa using ho)
        obtain ⟨m, h3, h4⟩ := hwith i x0 h1
        rw [Nat.zero_add] at h4
        refine ⟨x0, _, m, h1, h4, h3, ?_, ?_, ?_, h2, ?_⟩
        · split <;> rfl
        · split <;> rfl
        · split <;> rfl
        · intro hrd; rw [if_pos hrd]
      have hdst : ∀ (i : Nat) (x : O), l0[i]? = some x → τs (i + 1) = putA (τs i) x.d (vs i) ∧ dstOk nt x.d = true := by
        intro i x hxi
        have hi : i < ops.size := by rw [← hn0]; exact (List.getElem?_eq_some_iff.1 hxi).1
        obtain ⟨x0, x1, m, h1, h2, h3, h4, h5, h6, h7, _⟩ := hO i ops[i] (Array.getElem?_eq_getElem hi)
        rw [hxi] at h1
        cases h1
        obtain ⟨c1, c2, c3, c4, _⟩ := cOper_ok h7
        exact ⟨by rw [(hstep i x1 h2).1, h5], by rw [c3]; exact c4⟩
      have hkst1 : ∀ (i : Nat) (x : O), l0[i]? = some x → ks (i + 1) = ks i + x.c.acts.toNat := by
        intro i x hxi
        have hi : i < ops.size := by rw [← hn0]; exact (List.getElem?_eq_some_iff.1 hxi).1
        obtain ⟨x0, x1, m, h1, h2, h3, h4, _⟩ := hO i ops[i] (Array.getElem?_eq_getElem hi)
        rw [hxi] at h1
        cases h1
        rw [(hstep i x1 h2).2.1, h4]
      have hkst : ∀ i, i ≤ ops.size → ks i = cntL l0 (fun q => decide (q < i)) 0 := by
        intro i
        induction i with
        | zero =>
          intro _
          rw [k0]
          have aux : ∀ (m : List O) (k : Nat), cntL m (fun q => decide (q < 0)) k = 0 := by
            intro m
            induction m with
            | nil => intro k; rfl
            | cons y r ih => intro k; simp only [cntL, ih]; simp
          exact (aux l0 0).symm
        | succ i ih =>
          intro hi
          obtain ⟨x0, x1, m, h1, h2, h3, h4, _⟩ := hO i ops[i] (Array.getElem?_eq_getElem (by omega))
          rw [(hstep i x1 h2).2.1, ih (by omega), h4]
          have := cntL_add (f := fun q => decide (q < i)) l0 0 i x0 h1 (by simp)
          rw [← this]
          refine cntL_congr l0 0 fun q y _ _ => ?_
          rw [Bool.eq_iff_iff]
          simp only [Nat.zero_add, Bool.or_eq_true, decide_eq_true_eq, beq_iff_eq]
          omega
      have hearly : ∀ (i : Nat) (o : Oper) (m : Nat), ops[i]? = some o → ms[i]? = some m → ∀ q, bit m q = true → q < i := by
        intro i
        induction i using Nat.strongRecOn with
        | ind i ih =>
          intro o m ho hm q hq
          obtain ⟨e, he, hb, h⟩ := masks_ok ops.toList [] i o m (by simpa using ho) (by rw [hmsv]; simpa using hm) q hq
          have h1 := edges_ok ops.toList 0 hedge i o (by simpa using ho) e he hb
          rw [Nat.zero_add] at h1
          rcases h with rfl | ⟨m', hm', hp'⟩
          · exact h1
          · rw [hmsv] at hm'
            have hi : i < ops.size := (Array.getElem?_eq_some_iff.1 ho).1
            have := ih e.on h1 ops[e.on] m' (Array.getElem?_eq_getElem (by omega)) hm' q hp'
            omega
      have dis : ∀ m t, dstIs l0 m t = true → ∃ y, l0[m]? = some y ∧ y.d = some t := by
        intro m t hd
        unfold dstIs at hd
        split at hd
        · rename_i y hy
          split at hd
          · rename_i d hdd
            refine ⟨y, hy, ?_⟩
            rw [hdd, show d = t by simpa using hd]
          · cases hd
        · cases hd
      -- the state: the frontier, the early ones' blocks
      let E : (Nat → Bool) → Nat → Nat → Prop := fun L m e => F e = true ∧ m ≤ e ∧ L e = true
      let ps : (Nat → Bool) → Nat → Nat → Prop := fun L m t => ∃ (e : Nat) (f : O), E L m e ∧ l0[e]? = some f ∧ f.d = some t
      let State : Nat → (Nat → Bool) → Act → World → Prop := fun m L a1 w1 => ∃ (j1 : J) (fz : Nat → Nat) (w2 : World), j.le j1 ∧ a1.tmps.size = nt ∧ a1.defers = a.defers ∧
        (∀ e, E L m e → ¬ B (fz e)) ∧ (∀ e e', E L m e → E L m e' → fz e = fz e' → e = e') ∧ Keep B w0 w2 ∧
        (∀ (e : Nat) (f : O) (k : Nat) (z : List AV), E L m e → l0[e]? = some f → f.c = .al k z → ∃ cs : Array Value, w2.heap[fz e]? = some (.cells cs k (0, 0)) ∧ RL μ j1 z cs.toList) ∧
        Rel μ (fun q => B q ∨ ∃ e, E L m e ∧ q = fz e) w2 j1 (S (ks m)) w1 ∧
        (∀ t, ¬ ps L m t → RV μ j1 (valN l0 vs τ L t ops.size) (a1.tmps.getD t undef)) ∧
        (∀ (e : Nat) (f : O) (t : Nat), E L m e → l0[e]? = some f → f.d = some t → a1.tmps.getD t undef = .pointer (some ⟨fz e, 0, none⟩))
      let done : Nat → (Nat → Bool) → Prop := fun m L => ∀ (q : Nat) (y : O), q < m → l0[q]? = some y → y.c.acts = true → L q = true
      let beyond : Nat → (Nat → Bool) → Prop := fun m L => ∀ (q : Nat) (y : O), m ≤ q → l0[q]? = some y → y.c.acts = true → L q = true → F q = true
      let behind : Nat → (Nat → Bool) → Prop := fun m L => ∀ e q, E L m e → e < q → q < ops.size → F q = false → L q = false
      let Inv : (Nat → Bool) → Act → World → Prop := fun L a1 w1 => ∃ m, m ≤ ops.size ∧ done m L ∧ beyond m L ∧ behind m L ∧ (m = ops.size ∨ ∃ y, l0[m]? = some y ∧ y.c.acts = true ∧ L m = false) ∧ State m L a1 w1
      let Down : (Nat → Bool) → Prop := fun L => ∀ (i m p : Nat), L i = true → ms[i]? = some m → bit m p = true → L p = true
      -- the early ones are reached, one behind the other
      have advance : ∀ (d m : Nat) (L : Nat → Bool) (a1 : Act) (w1 : World), ops.size - m = d → m ≤ ops.size → Down L → done m L → beyond m L → behind m L → State m L a1 w1 → Inv L a1 w1 := by
        intro d
        induction d with
        | zero =>
          intro m L a1 w1 hd hm hdown h1 h2 h2b h3
          exact ⟨m, hm, h1, h2, h2b, .inl (by omega), h3⟩
        | succ d ih =>
          intro m L a1 w1 hd hm hdown h1 h2 h2b h3
          obtain ⟨y, hy⟩ : ∃ y, l0[m]? = some y := ⟨l0[m]'(by omega), List.getElem?_eq_getElem _⟩
          cases ha : y.c.acts with
          | false =>
            have hnF : F m = false := by
              cases hf : F m with
              | false => rfl
              | true =>
                obtain ⟨e, z, of, hfc, _⟩ := hF m y hf hy
                rw [hfc] at ha; cases ha
            have hEE : ∀ e, E L (m + 1) e ↔ E L m e := fun e => ⟨fun h => ⟨h.1, by have := h.2.1; omega, h.2.2⟩, fun h => ⟨h.1, by
              have h1' := h.2.1
              have h2' := h.1
              rcases Nat.eq_or_lt_of_le h1' with h3' | hlt
              · rw [← h3', hnF] at h2'; cases h2'
              · omega, h.2.2⟩⟩
            have hEq : E L (m + 1) = E L m := by funext e; exact propext (hEE e)
            have hps : ps L (m + 1) = ps L m := by
              show (fun t => ∃ e f, E L (m + 1) e ∧ _) = _
              rw [hEq]
            refine ih (m + 1) L a1 w1 (by omega) (by omega) hdown (fun q z hq hz hza => ?_) (fun q z hq => h2 q z (by omega)) (fun e q he => h2b e q ((hEE e).1 he)) ?_
            · rcases Nat.lt_or_ge q m with hlt | hge
              · exact h1 q z hlt hz hza
              · obtain rfl : q = m := by omega
                rw [hy] at hz; cases hz
                rw [ha] at hza; cases hza
            · obtain ⟨j1, fz, w2, g1, g2, g3, g4, g5, g6, g7, g8, g9, g10⟩ := h3
              have hk : ks (m + 1) = ks m := by rw [hkst1 m y hy, ha]; rfl
              show State (m + 1) L a1 w1
              simp only [State, hEq, hps, hk]
              exact ⟨j1, fz, w2, g1, g2, g3, g4, g5, g6, g7, g8, g9, g10⟩
          | true =>
            cases hLm : L m with
            | false => exact ⟨m, hm, h1, h2, h2b, .inr ⟨y, hy, ha, hLm⟩, h3⟩
            | true =>
              -- it leaves
              have hFm := h2 m y (Nat.le_refl _) hy ha hLm
              obtain ⟨ke, z, of, hfc, hof, hop, hgd, hz⟩ := hF m y hFm hy
              obtain ⟨j1, fz, w2, g1, g2, g3, g4, g5, g6, g7, g8, g9, g10⟩ := h3
              have hEm : E L m m := ⟨hFm, Nat.le_refl _, hLm⟩
              have hEs : ∀ e, E L (m + 1) e → E L m e ∧ e ≠ m := fun e h => ⟨⟨h.1, by have := h.2.1; omega, h.2.2⟩, by have := h.2.1; omega⟩
              have hEr : ∀ e, E L m e → e ≠ m → E L (m + 1) e := fun e h hne => ⟨h.1, by have := h.2.1; omega, h.2.2⟩
              obtain ⟨cs, hcs, hrl⟩ := g7 m y ke z hEm hy hfc
              have hh : w1.heap[fz m]? = some (.cells cs ke (0, 0)) := by rw [g8.below.block _ (.inr ⟨m, hEm, rfl⟩)]; exact hcs
              -- what the run in the text's order did here
              have hex : newA (S (ks m)) ke true z (fun b => .p b 0) = some (vs m, S (ks m + 1)) := by
                obtain ⟨x0, x1, mm, q1, q2, q3, q4, q5, q6, q7, _⟩ := hO m ops[m] (Array.getElem?_eq_getElem (by omega))
                rw [hy] at q1; cases q1
                obtain ⟨_, _, q8⟩ := hstep m x1 q2
                have hg0 : x1.g = none := by
                  rw [q6]
                  have := (cOper_ok q7).2.1
                  have hoe : ops[m] = of := by
                    rw [Array.getElem?_eq_getElem (by omega)] at hof
                    exact Option.some.inj hof
                  rw [hoe, hgd] at this
                  simpa [guardA] using this.symm
                rcases q8 with ⟨_, ⟨_, g⟩ | ⟨g, _⟩⟩ | ⟨g, _⟩
                · rw [q4, hfc] at g; exact g
                · rw [q4, ha] at g; cases g
                · rw [hg0] at g; cases g
              obtain ⟨b, hone, hnew, hvs⟩ := newA_ok hex
              have hlen := RL.len _ _ hrl
              have hun : Rel μ (fun q => B q ∨ ∃ e, E L (m + 1) e ∧ q = fz e) w2 j1 (S (ks m)) w1 :=
                g8.unbase (fun q hq => by
                  rcases hq with hq | ⟨e, he, rfl⟩
                  · exact .inl hq
                  · exact .inr ⟨e, (hEs e he).1, rfl⟩) (Keep.refl _ _) (fun g o hg => ⟨.inl (hr.held g o hg).1, (g8.held g o hg).2⟩)
              have hnB : ¬ (B (fz m) ∨ ∃ e, E L (m + 1) e ∧ fz m = fz e) := by
                rintro (hb | ⟨e, he, h⟩)
                · exact g4 m hEm hb
                · exact (hEs e he).2 (g5 m e hEm (hEs e he).1 h).symm
              obtain ⟨hb, hle, hrel⟩ := hun.add hnew cs (0, 0) w1 (fz m) (fz m) rfl rfl rfl (Nat.le_refl _) hnB hnB hh (fun _ _ _ _ => rfl)
                (fun b' blk' g hg hj => by
                  obtain ⟨g', _, _, q1, q2, _⟩ := g8.get b' blk' hg
                  rw [hj] at q1; cases q1
                  exact ⟨fun e => q2 (.inr ⟨m, hEm, e⟩), fun e => q2 (.inr ⟨m, hEm, e⟩)⟩)
                (fun k o hk hnc => by
                  have : k ≠ fz m := by rintro rfl; rw [hh] at hk; cases hk; exact hnc _ _ _ rfl
                  exact ⟨this, this⟩)
                (fun _ => rfl) (fun o _ => by simp) (by simpa using Nat.le_of_eq hlen.symm) hone
                (fun i x hx => by obtain ⟨v, hv', hr'⟩ := RL.nth _ _ hrl i x hx; exact ⟨v, by simpa using hv', hr'⟩)
              have hk : ks (m + 1) = ks m + 1 := by rw [hkst1 m y hy, ha]; rfl
              refine ih (m + 1) L a1 w1 (by omega) (by omega) hdown (fun q z' hq hz' hza => ?_) (fun q z' hq => h2 q z' (by omega)) (fun e q he => h2b e q (hEs e he).1) ?_
              · rcases Nat.lt_or_ge q m with hlt | hge
                · exact h1 q z' hlt hz' hza
                · obtain rfl : q = m := by omega
                  exact hLm
              · refine ⟨_, fz, w2, g1.trans hle, g2, g3, fun e he => g4 e (hEs e he).1, fun e e' he he' => g5 e e' (hEs e he).1 (hEs e' he').1, g6, fun e f k z' he hf hfc' => ?_, by rw [hk]; exact hrel, fun t hnp => ?_, fun e f t he hf hd => g10 e f t (hEs e he).1 hf hd⟩
                · obtain ⟨cs', q1, q2⟩ := g7 e f k z' (hEs e he).1 hf hfc'
                  exact ⟨cs', q1, q2.mono hle _ _⟩
                · by_cases hmt : y.d = some t
                  · -- its slot
                    rw [g10 m y t hEm hy hmt]
                    have hdm : dstIs l0 m t = true := by unfold dstIs; rw [hy]; simp [hmt]
                    have hup := valN_above (l := l0) (vs := vs) (τ := τ) (L := L) (t := t) (m + 1) (ops.size - (m + 1)) fun q hq1 hq2 => by
                      cases hLq : L q with
                      | false => rfl
                      | true =>
                        cases hdq : dstIs l0 q t with
                        | false => rfl
                        | true =>
                          exfalso
                          obtain ⟨yq, hyq, hdq'⟩ := dis q t hdq
                          cases hFq : F q with
                          | true =>
                            have := hdd m q y yq t hFm hFq hy hyq hmt hdq'
                            omega
                          | false =>
                            rw [h2b m q hEm (by omega) (by omega) hFq] at hLq; cases hLq
                    rw [show m + 1 + (ops.size - (m + 1)) = ops.size from by omega] at hup
                    rw [hup]
                    simp only [valN, hLm, hdm, Bool.and_self, if_true]
                    rw [hvs]
                    exact ⟨⟨fz m, cs.size⟩, by simp [J.upd], rfl⟩
                  · refine (g9 t ?_).mono hle
                    rintro ⟨e, f, he, hf, hd⟩
                    by_cases hem : e = m
                    · subst hem
                      rw [hy] at hf; cases hf
                      exact hmt hd
                    · exact hnp ⟨e, f, hEr e he hem, hf, hd⟩
      have tab_ok : ∀ (a2 : Act) (j1 : J) (val : Nat → AV), a2.tmps.size = nt → (∀ t, RV μ j1 (val t) (a2.tmps.getD t undef)) → (∀ t, (X.t t).ev (tabT val nt) = val t) ∧ RT μ j1 (tabT val nt) a2 := by
        intro a2 j1 val hsz hv
        have hev : ∀ t, (X.t t).ev (tabT val nt) = val t := by
          intro t
          simp only [X.ev, tabT_get _ nt hnt]
          by_cases e : t < nt
          · rw [if_pos e]
          · rw [if_neg e]
            have := hv t
            rw [Array.getD_eq_getD_getElem?, Array.getElem?_eq_none (by omega), Option.getD_none] at this
            exact (undef_only hμ this).symm
        exact ⟨hev, fun t => by rw [hev]; exact hv t⟩
      have step : ∀ (L : Nat → Bool) (a1 : Act) (w1 : World) (i : Nat) (o : Oper) (K : Act → World → Prop), Inv L a1 w1 → Down L → L i = false → (∀ q, ops.size ≤ q → L q = false) → ops[i]? = some o → (∀ e ∈ o.after, Region.binds .any e = true → L e.on = true) →
          (∀ a2 w2, Inv (fun q => L q || q == i) a2 w2 → K a2 w2) → wpOp P ops Q i K a1 w1 := by
        intro L a1 w1 i o K ⟨m, hm, hdn, hby, hbh, hfr, j1, fz, w2, hj1, hn1, hd1, g4, g5, g6, g7, g8, g9, g10⟩ hdown hLi hLn ho hready hK
        obtain ⟨x0, x, mi, h1, h2, h3, h4, h5, h6, h7, h8⟩ := hO i o ho
        obtain ⟨c1, c2, c3, c4, _⟩ := cOper_ok h7
        have hi : i < ops.size := (Array.getElem?_eq_some_iff.1 ho).1
        have hbits : ∀ q, bit mi q = true → L q = true := by
          intro q hq
          obtain ⟨e, he, hb, h⟩ := masks_ok ops.toList [] i o mi (by simpa using ho) (by rw [hmsv]; simpa using h3) q hq
          have hLe := hready e (by simpa using he) hb
          rcases h with rfl | ⟨m', hm', hp'⟩
          · exact hLe
          · rw [hmsv] at hm'
            exact hdown _ _ _ hLe hm' hp'
        have hdown' : Down (fun q => L q || q == i) := by
          intro i2 m2 p hL2 hm2 hb2
          simp only [Bool.or_eq_true, beq_iff_eq] at hL2 ⊢
          left
          rcases hL2 with hL2 | rfl
          · exact hdown i2 m2 p hL2 hm2 hb2
          · rw [h3] at hm2; cases hm2; exact hbits p hb2
        have msAt : ∀ q, q < ops.size → ∃ mq, ms[q]? = some mq := fun q hq => ⟨ms[q]'(by omega), List.getElem?_eq_getElem _⟩
        have l0At : ∀ q, q < ops.size → ∃ y, l0[q]? = some y := fun q hq => ⟨l0[q]'(by omega), List.getElem?_eq_getElem _⟩
        have hEn : ∀ e, E L m e → e < ops.size := fun e he => by
          rcases Nat.lt_or_ge e ops.size with h | h
          · exact h
          · have h' := he.2.2
            rw [hLn e h] at h'; cases h'
        have hdone' : done m (fun q => L q || q == i) := fun q y hq hy hya => by
          show (L q || q == i) = true
          rw [hdn q y hq hy hya]; rfl
        cases hFi : F i with
        | true =>
          obtain ⟨ke, z, of, hfc, hof, hop, hgd, hz⟩ := hF i x0 hFi h1
          obtain rfl : o = of := by rw [ho] at hof; exact Option.some.inj hof
          have hact : x0.c.acts = true := by rw [hfc]; rfl
          have him : m ≤ i := by
            rcases Nat.lt_or_ge i m with h | h
            · rw [hdn i x0 h h1 hact] at hLi; cases hLi
            · exact h
          obtain ⟨v, hrun, hv⟩ := run_zero (w := w1) (μ := μ) (j := j1) hz
          have hEs : ∀ e, E (fun q => L q || q == i) m e → e ≠ i → E L m e := fun e he hne => ⟨he.1, he.2.1, by
            have h' := he.2.2
            have : (e == i) = false := by simpa using hne
            simpa [this] using h'⟩
          have hEr : ∀ e, E L m e → E (fun q => L q || q == i) m e := fun e he => ⟨he.1, he.2.1, by
            show (L e || e == i) = true
            rw [he.2.2]; rfl⟩
          have hEi : E (fun q => L q || q == i) m i := ⟨hFi, him, by simp⟩
          unfold wpOp
          rw [ho]
          simp only
          rw [if_pos (by unfold Region.wanted; rw [hgd])]
          left
          refine wp_value (v := .pointer (some ⟨w1.heap.size, 0, none⟩)) (w' := w1.alloc (.cells v.cells ke)) (by simp [execOp, hop, Instr.alloc, hrun, newVar, newRow]) (hK _ _ (advance (ops.size - m) m _ _ _ rfl hm hdown' hdone' ?_ ?_ ?_))
          · intro q y hq hy hya hL
            simp only [Bool.or_eq_true, beq_iff_eq] at hL
            rcases hL with hL | rfl
            · exact hby q y hq hy hya hL
            · exact hFi
          · intro e q he heq hqn hFq
            have hqi : (q == i) = false := by
              rw [beq_eq_false_iff_ne]; rintro rfl; rw [hFi] at hFq; cases hFq
            show (L q || q == i) = false
            rw [hqi, Bool.or_false]
            by_cases hei : e = i
            · subst hei
              cases hLq : L q with
              | false => rfl
              | true =>
                obtain ⟨mq, hmq⟩ := msAt q hqn
                rw [hdown q mq e hLq hmq (hbehind e q mq hFi heq hFq hmq).1] at hLi; cases hLi
            · exact hbh e q (hEs e he hei) heq hqn hFq
          · have hbel : Below w1.heap.size w1 (w1.alloc (.cells v.cells ke)) := (Below.refl _ w1).alloc (Nat.le_refl _) _
            have hr2 := g8.later hbel
            have hsz : (w1.alloc (.cells v.cells ke)).heap.size = w1.heap.size + 1 := by simp
            have hlt : ∀ e, E L m e → fz e < w1.heap.size := fun e he => g8.base _ (.inr ⟨e, he, rfl⟩)
            refine ⟨j1, fun e => if e = i then w1.heap.size else fz e, w1.alloc (.cells v.cells ke), hj1, by rw [put_size]; exact hn1, by rw [put_defers]; exact hd1, fun e he => ?_, fun e e' he he' h => ?_, ?_, fun e f k z' he hf hfc' => ?_, ?_, fun t hnp => ?_, fun e f t he hf hd => ?_⟩
            · show ¬ B (if e = i then w1.heap.size else fz e)
              by_cases hei : e = i
              · rw [if_pos hei]; intro hb; have := g8.base _ (.inl hb); omega
              · rw [if_neg hei]; exact g4 e (hEs e he hei)
            · simp only at h
              by_cases hei : e = i <;> by_cases hei' : e' = i
              · rw [hei, hei']
              · rw [if_pos hei, if_neg hei'] at h; have := hlt e' (hEs e' he' hei'); omega
              · rw [if_neg hei, if_pos hei'] at h; have := hlt e (hEs e he hei); omega
              · rw [if_neg hei, if_neg hei'] at h; exact g5 e e' (hEs e he hei) (hEs e' he' hei') h
            · exact g6.trans (hr2.below.mono fun k hk => .inl hk)
            · by_cases hei : e = i
              · subst hei
                rw [h1] at hf; cases hf
                rw [hfc] at hfc'; cases hfc'
                refine ⟨v.cells, ?_, hv⟩
                dsimp only
                rw [if_pos rfl, show (w1.alloc (.cells v.cells ke)).heap = w1.heap.push (.cells v.cells ke) from rfl]; simp
              · obtain ⟨cs, q1, q2⟩ := g7 e f k z' (hEs e he hei) hf hfc'
                refine ⟨cs, ?_, q2⟩
                dsimp only
                rw [if_neg hei, hr2.below.block _ (.inr ⟨e, hEs e he hei, rfl⟩)]; exact q1
            · refine hr2.rebase (fun k hk => ?_) (fun k hk => ?_) (fun b blk g hg hj hB => ?_) (fun b i' g hg hj hB => ?_)
              · rcases hk with hk | ⟨e, he, rfl⟩
                · exact .inl hk
                · refine .inr ⟨e, hEr e he, ?_⟩
                  dsimp only
                  rw [if_neg (by
                    rintro rfl
                    have h' := he.2.2
                    rw [hLi] at h'; cases h')]
              · rcases hk with hk | ⟨e, he, rfl⟩
                · have := g8.base _ (.inl hk); omega
                · by_cases hei : e = i
                  · dsimp only; rw [if_pos hei]; omega
                  · dsimp only; rw [if_neg hei]; have := hlt e (hEs e he hei); omega
              · obtain ⟨g', _, _, q1, q2, _⟩ := g8.get b blk hg
                rw [hj] at q1; cases q1
                have hd := (g8.dom b g hj).2.2
                rcases hB with hB | ⟨e, he, hB⟩
                · exact q2 (.inl hB)
                · by_cases hei : e = i
                  · dsimp only at hB; rw [if_pos hei] at hB; omega
                  · dsimp only at hB; rw [if_neg hei] at hB; exact q2 (.inr ⟨e, hEs e he hei, hB⟩)
              · obtain ⟨g', _, q1, q2, _⟩ := g8.iter b i' hg
                rw [hj] at q1; cases q1
                have hd := (g8.dom b g hj).2.2
                rcases hB with hB | ⟨e, he, hB⟩
                · exact q2 (.inl hB)
                · by_cases hei : e = i
                  · dsimp only at hB; rw [if_pos hei] at hB; omega
                  · dsimp only at hB; rw [if_neg hei] at hB; exact q2 (.inr ⟨e, hEs e he hei, hB⟩)
            · have htd : x0.d ≠ some t := fun hd => hnp ⟨i, x0, hEi, h1, hd⟩
              rw [valN_same (L' := L) ops.size fun q _ hq => by
                by_cases e : q = i
                · subst e
                  obtain ⟨y, hy, hyd⟩ := dis q t hq
                  rw [h1] at hy; cases hy
                  exact (htd hyd).elim
                · have : (q == i) = false := by simpa using e
                  rw [this, Bool.or_false]]
              have : (a1.put o.dst (.pointer (some ⟨w1.heap.size, 0, none⟩))).tmps.getD t undef = a1.tmps.getD t undef := by
                cases hod : o.dst with
                | none => rfl
                | some d =>
                  have : d ≠ t := fun e => htd (by rw [c3, hod, e])
                  simp only [Act.put, Array.getD_eq_getD_getElem?, Array.getElem?_setIfInBounds_ne this]
              rw [this]
              exact g9 t fun ⟨e, f, he, hf, hd⟩ => hnp ⟨e, f, hEr e he, hf, hd⟩
            · by_cases hei : e = i
              · subst hei
                rw [h1] at hf; cases hf
                have hod : o.dst = some t := by rw [← c3]; exact hd
                have htlt : t < nt := by
                  rw [hod] at c4
                  simp only [dstOk, Bool.and_eq_true, Nat.blt_eq] at c4
                  omega
                dsimp only
                rw [if_pos rfl, hod]
                simp only [Act.put, Array.getD_eq_getD_getElem?, Array.getElem?_setIfInBounds_self_of_lt (show t < a1.tmps.size by omega), Option.getD_some]
              · dsimp only
                rw [if_neg hei]
                have htd : x0.d ≠ some t := fun hd' => hei (hdd e i f x0 t he.1 hFi hf h1 hd hd')
                have : (a1.put o.dst (.pointer (some ⟨w1.heap.size, 0, none⟩))).tmps.getD t undef = a1.tmps.getD t undef := by
                  cases hod : o.dst with
                  | none => rfl
                  | some d =>
                    have : d ≠ t := fun e => htd (by rw [c3, hod, e])
                    simp only [Act.put, Array.getD_eq_getD_getElem?, Array.getElem?_setIfInBounds_ne this]
                rw [this]
                exact g10 e f t (hEs e he hei) hf hd
        | false =>
          classical
          have pend_gt : ∀ e, E L m e → i < e ∧ ∀ mp, ms[e]? = some mp → bit mp i = false := by
            intro e he
            have hel := hEn e he
            have hFe := he.1
            have hLe := he.2.2
            have hne : e ≠ i := by rintro rfl; rw [hFi] at hFe; cases hFe
            have hge : ¬ e < i := by
              intro hlt
              have hw := (hbehind e i mi hFe hlt hFi h3).2
              rcases hfr with rfl | ⟨y, hy, hya, hLm⟩
              · have := he.2.1; omega
              · have hme : m < e := by
                  rcases Nat.eq_or_lt_of_le he.2.1 with h | h
                  · rw [h, hLe] at hLm; cases hLm
                  · exact h
                rw [hbits m (hw m y hme hy hya)] at hLm; cases hLm
            refine ⟨by omega, fun mp hmp => ?_⟩
            cases hb : bit mp i with
            | false => rfl
            | true => rw [hdown e mp i hLe hmp hb] at hLi; cases hLi
          have nofl : ∀ t, x0.names.contains t = true → ¬ ps L m t := by
            rintro t htn ⟨e, f, he, hf, hd⟩
            obtain ⟨hlt, hb⟩ := pend_gt e he
            obtain ⟨mp, hmp⟩ := msAt e (hEn e he)
            rcases hpair i e x0 f mp hlt h1 hf hmp with hb' | ⟨_, _, h3'⟩
            · rw [hb mp hmp] at hb'; cases hb'
            · rw [h3' t hd] at htn; cases htn
          have later : ∀ q, i < q → L q = true → ∀ y, l0[q]? = some y → ∀ d, y.d = some d → x0.names.contains d = false := by
            intro q hq hLq y hy
            obtain ⟨mq, hmq⟩ := msAt q (by rw [← hn0]; exact (List.getElem?_eq_some_iff.1 hy).1)
            rcases hpair i q x0 y mq hq h1 hy hmq with hp | ⟨_, _, g3⟩
            · rw [hdown q mq i hLq hmq hp] at hLi; cases hLi
            · exact g3
          have earlier : ∀ q, q < i → L q = false → ∀ y, l0[q]? = some y → ∀ d, y.d = some d → x0.names.contains d = false := by
            intro q hq hLq y hy
            rcases hpair q i y x0 mi hq hy h1 h3 with hp | ⟨_, g2, _⟩
            · rw [hbits q hp] at hLq; cases hLq
            · exact g2
          have above : ∀ t, x0.names.contains t = true → ∀ m, i < m → (L m && dstIs l0 m t) = false := by
            intro t htn m hm
            cases hLm : L m with
            | false => rfl
            | true =>
              cases hd : dstIs l0 m t with
              | false => rfl
              | true =>
                obtain ⟨y, hy, hyd⟩ := dis m t hd
                have := later m hm hLm y hy t hyd
                rw [htn] at this
                cases this
          have seen : ∀ t, x0.names.contains t = true → valN l0 vs τ L t ops.size = (X.t t).ev (τs i) := by
            intro t htn
            rw [valN_lex e0 hdst i (by omega)]
            have hup := valN_above (l := l0) (vs := vs) (τ := τ) (L := L) (t := t) i (ops.size - i) fun m h1' h2' => by
              by_cases e : m = i
              · rw [e, hLi]; rfl
              · exact above t htn m (by omega)
            rw [show i + (ops.size - i) = ops.size from by omega] at hup
            rw [hup]
            refine valN_same i fun m hm hd => ?_
            cases hLm : L m with
            | true => rfl
            | false =>
              obtain ⟨y, hy, hyd⟩ := dis m t hd
              have := earlier m hm hLm y hy t hyd
              rw [htn] at this
              cases this
          have hwant_of : ∀ τx : T, (∀ t, t ∈ x0.looks → (X.t t).ev τx = (X.t t).ev (τs i)) → wantA x0.g τx = wantA x.g (τs i) := by
            intro τx hl
            rw [h6]
            exact want_congr fun t h => hl t (by simp [O.looks, h])
          have hexec_of : ∀ τx : T, (∀ t, t ∈ x0.looks → (X.t t).ev τx = (X.t t).ev (τs i)) → ∀ σ1, execA call x0.c τx σ1 = execA call x.c (τs i) σ1 := by
            intro τx hl σ1
            rw [h4]
            exact exec_congr fun t h => hl t (by simp [O.looks, h])
          have hval : ∀ (j2 : J) (v : Value) (a2 : Act), a2.tmps.size = nt → RV μ j2 (vs i) v → ∀ t, RV μ j2 (valN l0 vs τ L t ops.size) (a2.tmps.getD t undef) → RV μ j2 (valN l0 vs τ (fun q => L q || q == i) t ops.size) ((a2.put o.dst v).tmps.getD t undef) := by
            intro j2 v a2 hn2 hv t hvt
            cases hd : dstIs l0 i t with
            | true =>
              obtain ⟨y, hy, hyd⟩ := dis i t hd
              rw [h1] at hy
              cases hy
              have htn : x0.names.contains t = true := by simp [O.names, hyd]
              have hup := valN_above (l := l0) (vs := vs) (τ := τ) (L := fun q => L q || q == i) (t := t) (i + 1) (ops.size - (i + 1)) fun m h1' h2' => by
                have : (m == i) = false := by simp; omega
                rw [this, Bool.or_false]
                exact above t htn m (by omega)
              rw [show i + 1 + (ops.size - (i + 1)) = ops.size from by omega] at hup
              rw [hup]
              simp only [valN, hd, beq_self_eq_true, Bool.or_true, Bool.and_self, if_true]
              have hod : o.dst = some t := by rw [← c3, hyd]
              have htlt : t < nt := by
                rw [hod] at c4
                simp only [dstOk, Bool.and_eq_true, Nat.blt_eq] at c4
                omega
              rw [hod]
              simp only [Act.put, Array.getD_eq_getD_getElem?, Array.getElem?_setIfInBounds_self_of_lt (show t < a2.tmps.size by omega), Option.getD_some]
              exact hv
            | false =>
              rw [valN_same (L' := L) ops.size fun m _ hm => by
                by_cases e : m = i
                · rw [e] at hm; rw [hm] at hd; cases hd
                · have : (m == i) = false := by simpa using e
                  rw [this, Bool.or_false]]
              have hne : o.dst ≠ some t := by
                intro e
                rw [← c3] at e
                unfold dstIs at hd
                rw [h1] at hd
                simp [e] at hd
              have : (a2.put o.dst v).tmps.getD t undef = a2.tmps.getD t undef := by
                cases hod : o.dst with
                | none => rfl
                | some d =>
                  have : d ≠ t := fun e => hne (by rw [hod, e])
                  simp only [Act.put, Array.getD_eq_getD_getElem?, Array.getElem?_setIfInBounds_ne this]
              rw [this]
              exact hvt
          have hsz2 : (hideS a1 (ps L m)).tmps.size = nt := by rw [hide_size]; exact hn1
          have hv2 : ∀ t, RV μ j1 (if ps L m t then undefA else valN l0 vs τ L t ops.size) ((hideS a1 (ps L m)).tmps.getD t undef) := by
            intro t
            by_cases hp : ps L m t
            · rw [if_pos hp, hide_at hp]; exact ⟨#[], rfl, rfl⟩
            · rw [if_neg hp, hide_off hp]; exact g9 t hp
          obtain ⟨hev, ht2⟩ := tab_ok (hideS a1 (ps L m)) j1 _ hsz2 hv2
          generalize htx : tabT (fun t => if ps L m t then undefA else valN l0 vs τ L t ops.size) nt = τx at hev ht2
          have hlooks : ∀ t, t ∈ x0.looks → (X.t t).ev τx = (X.t t).ev (τs i) := by
            intro t hl
            have htn : x0.names.contains t = true := by simp [O.names, hl]
            rw [hev, if_neg (nofl t htn), seen t htn]
          have hopeq : execOp a1.eval o = execOp (hideS a1 (ps L m)).eval o := by
            refine execOp_congr o (hsel i o ho) fun y hy => ?_
            cases y with
            | tmp t =>
              have hnp : ¬ ps L m t := by
                rintro ⟨e, f, he, hf, hd⟩
                obtain ⟨hlt, hb⟩ := pend_gt e he
                obtain ⟨mp, hmp⟩ := msAt e (hEn e he)
                have := hfree e i mp f o he.1 hf hmp hlt (hb mp hmp) ho (.tmp t) hy
                rw [hd] at this
                simp [freeOf] at this
              exact (hide_off hnp).symm
            | const v => rfl
            | func g => rfl
            | global g => rfl
          have hinj : ∀ v v', (hideS a1 (ps L m)).put o.dst v = (hideS a1 (ps L m)).put o.dst v' → a1.put o.dst v = a1.put o.dst v' := fun v v' h => put_inj (by rw [hsz2, hn1]) h
          have hgr : Region.wanted o (yielded ops a1.tmps) = Region.wanted o (yielded ops (hideS a1 (ps L m)).tmps) := by
            cases hg0 : o.guard with
            | none => unfold Region.wanted; rw [hg0]
            | some g0 =>
              obtain ⟨jj, want⟩ := g0
              unfold Region.wanted
              rw [hg0]
              simp only
              have : yielded ops a1.tmps jj = yielded ops (hideS a1 (ps L m)).tmps jj := by
                unfold yielded
                cases hoj : ops[jj]? with
                | none => rfl
                | some oj =>
                  simp only [Option.bind_some]
                  cases hdj : oj.dst with
                  | none => simp only [Option.bind_none]
                  | some dj =>
                    simp only [Option.bind_some]
                    have hgl : dj ∈ x0.looks := by
                      have c2' := c2
                      unfold guardA at c2'
                      rw [hg0] at c2'
                      simp only [hoj, hdj] at c2'
                      cases hxg : x0.g with
                      | none => rw [hxg] at c2'; cases c2'
                      | some g1 =>
                        rw [hxg] at c2'
                        simp only [Option.some.injEq] at c2'
                        subst c2'
                        simp [O.looks, hxg, gtm]
                    rw [hide_off? (nofl dj (by simp [O.names, hgl]))]
              rw [this]
          obtain ⟨_, hks1, hst⟩ := hstep i x h2
          have hEe : ∀ m' e, (m' = m ∨ (m' = m + 1 ∧ i = m)) → (E (fun q => L q || q == i) m' e ↔ E L m e) := by
            intro m' e hm'
            constructor
            · intro he
              have hne : (e == i) = false := by
                rw [beq_eq_false_iff_ne]; rintro rfl; have := he.1; rw [hFi] at this; cases this
              refine ⟨he.1, by have := he.2.1; omega, ?_⟩
              have h' : (L e || e == i) = true := he.2.2
              rwa [hne, Bool.or_false] at h'
            · intro he
              have hne : e ≠ i := by rintro rfl; have := he.1; rw [hFi] at this; cases this
              exact ⟨he.1, by have := he.2.1; omega, by show (L e || e == i) = true; rw [he.2.2]; rfl⟩
          -- where it is left
          have fin : ∀ (m' : Nat) (j2 : J) (v : Value) (w3 : World), (m' = m ∧ x0.c.acts = false ∨ (m' = m + 1 ∧ i = m)) → j1.le j2 → RV μ j2 (vs i) v → Rel μ (fun q => B q ∨ ∃ e, E L m e ∧ q = fz e) w2 j2 (S (ks m')) w3 → K (a1.put o.dst v) w3 := by
            intro m' j2 v w3 hm' hj2 hv hr3
            have hmm : m' = m ∨ (m' = m + 1 ∧ i = m) := by
              rcases hm' with ⟨h, _⟩ | h
              · exact .inl h
              · exact .inr h
            have hEE : E (fun q => L q || q == i) m' = E L m := by funext e; exact propext (hEe m' e hmm)
            have hPS : ps (fun q => L q || q == i) m' = ps L m := by
              show (fun t => ∃ e f, E (fun q => L q || q == i) m' e ∧ _) = _
              rw [hEE]
            refine hK _ _ (advance (ops.size - m') m' _ _ _ rfl (by omega) hdown' (fun q y hq hy hya => ?_) (fun q y hq hy hya hL => ?_) (fun e q he heq hqn hFq => ?_) ?_)
            · show (L q || q == i) = true
              rcases Nat.lt_or_ge q m with hlt | hge
              · rw [hdn q y hlt hy hya]; rfl
              · have : q = i := by omega
                rw [this]; simp
            · simp only [Bool.or_eq_true, beq_iff_eq] at hL
              rcases hL with hL | rfl
              · exact hby q y (by omega) hy hya hL
              · rcases hm' with ⟨rfl, ha⟩ | ⟨rfl, rfl⟩
                · rw [h1] at hy; cases hy; rw [ha] at hya; cases hya
                · omega
            · have he' := (hEe m' e hmm).1 he
              obtain ⟨hlt, _⟩ := pend_gt e he'
              have : (q == i) = false := by rw [beq_eq_false_iff_ne]; omega
              show (L q || q == i) = false
              rw [this, Bool.or_false]
              exact hbh e q he' heq hqn hFq
            · show State m' _ _ _
              simp only [State, hEE, hPS]
              refine ⟨j2, fz, w2, hj1.trans hj2, by rw [put_size]; exact hn1, by rw [put_defers]; exact hd1, g4, g5, g6, fun e f k z he hf hfc => ?_, hr3, fun t hnp => ?_, fun e f t he hf hd => ?_⟩
              · obtain ⟨cs, q1, q2⟩ := g7 e f k z he hf hfc
                exact ⟨cs, q1, q2.mono hj2 _ _⟩
              · exact hval j2 v a1 hn1 hv t ((g9 t hnp).mono hj2)
              · have hne : o.dst ≠ some t := by
                  intro e'
                  rw [← c3] at e'
                  exact nofl t (by simp [O.names, e']) ⟨e, f, he, hf, hd⟩
                have : (a1.put o.dst v).tmps.getD t undef = a1.tmps.getD t undef := by
                  cases hod : o.dst with
                  | none => rfl
                  | some d =>
                    have : d ≠ t := fun e => hne (by rw [hod, e])
                    simp only [Act.put, Array.getD_eq_getD_getElem?, Array.getElem?_setIfInBounds_ne this]
                rw [this]; exact g10 e f t he hf hd
          unfold wpOp
          rw [ho]
          simp only
          rw [hgr]
          cases hact : x0.c.acts with
          | true =>
            have hall : ∀ (q : Nat) (y : O), q < i → l0[q]? = some y → y.c.acts = true → L q = true := by
              intro q y hq hy hya
              cases hFq : F q with
              | true => exact hbits q (hbehind q i mi hFq hq hFi h3).1
              | false =>
                rcases hpair q i y x0 mi hq hy h1 h3 with hb | ⟨hb | hb | hb, _⟩
                · exact hbits q hb
                · rw [hya, hact] at hb; cases hb
                · rw [hFq] at hb; cases hb
                · rw [hFi] at hb; cases hb
            have him : i = m := by
              rcases Nat.lt_trichotomy i m with h | h | h
              · rw [hdn i x0 h h1 hact] at hLi; cases hLi
              · exact h
              · rcases hfr with rfl | ⟨y, hy, hya, hLm⟩
                · omega
                · rw [hall m y h hy hya] at hLm; cases hLm
            have hki : ks m = ks i := by rw [him]
            have hk1 : ks (m + 1) = ks i + 1 := by rw [← him, hkst1 i x0 h1, hact]; rfl
            rw [hki] at g8
            rcases hst with ⟨hw, hst⟩ | ⟨hw, hvu, hoff⟩
            · rcases hst with ⟨ha, hex⟩ | ⟨ha, _⟩
              · rw [if_pos (guard_ok c2 rfl ht2 (by rw [hwant_of τx hlooks]; exact hw))]
                left
                refine wp_surg (R := fun v w3 => ∃ j2, j1.le j2 ∧ RV μ j2 (vs i) v ∧ Rel μ (fun q => B q ∨ ∃ e, E L m e ∧ q = fz e) w2 j2 (S (ks i + 1)) w3) hopeq rfl hinj ?_ K Q ?_
                · intro K' Q' hk'
                  exact exec_ok hμ g8 ht2 hcall c1 (by rw [hexec_of τx hlooks]; exact hex) K' Q' fun j2 v w3 hj2 hv hr3 => hk' v w3 ⟨j2, hj2, hv, hr3⟩
                · intro v w3 ⟨j2, hj2, hv, hr3⟩
                  exact fin (m + 1) j2 v w3 (.inr ⟨rfl, him⟩) hj2 hv (by rw [hk1]; exact hr3)
              · rw [h4, hact] at ha; cases ha
            · rw [if_neg (by rw [guard_ok c2 rfl ht2 (by rw [hwant_of τx hlooks]; exact hw)]; simp)]
              refine fin (m + 1) j1 undef w1 (.inr ⟨rfl, him⟩) (J.le.refl _) (by rw [hvu]; exact ⟨#[], rfl, rfl⟩) ?_
              rw [hk1, hoff (by rw [h4]; exact hact)]; exact g8
          | false =>
            rcases hst with ⟨hw, hst⟩ | ⟨hw, hvu, _⟩
            · rcases hst with ⟨ha, _⟩ | ⟨ha, ⟨σ1, hex⟩, hstab⟩
              · rw [h4, hact] at ha; cases ha
              · rw [if_pos (guard_ok c2 rfl ht2 (by rw [hwant_of τx hlooks]; exact hw))]
                left
                have hsame : execA call x.c (τs i) (S (ks m)) = some (vs i, S (ks m)) := by
                  cases hrd : x.c.reads with
                  | false => exact (exec_any hex ha hrd).2 _
                  | true =>
                    have hrd0 : x0.c.reads = true := by rw [← h4]; exact hrd
                    refine (exec_reads hex hrd).2 _ (hstab _ _ (h8 hrd0) _ ?_ ?_ ?_)
                    · rw [loOf_eq, hkst m hm]
                      refine cntL_mono l0 0 fun q y hy hya hb => ?_
                      rw [Nat.zero_add] at hb ⊢
                      have hLq := hbits q hb
                      rw [decide_eq_true_eq]
                      rcases Nat.lt_or_ge q m with h | h
                      · exact h
                      · have hFq := hby q y h hy hya hLq
                        have h1' := (pend_gt q ⟨hFq, h, hLq⟩).1
                        have h2' := hearly i o mi ho h3 q hb
                        omega
                    · rw [hiOf_eq i ms l0 ms 0 rfl hlenms, hkst m hm]
                      refine cntL_mono l0 0 fun q y hy hya hq => ?_
                      rw [Nat.zero_add, decide_eq_true_eq] at hq
                      rw [Nat.zero_add]
                      have hLq := hdn q y hq hy hya
                      obtain ⟨mm, hmm⟩ := msAt q (by omega)
                      rw [List.getD_eq_getElem?_getD, hmm, Option.getD_some]
                      cases hb : bit mm i with
                      | false => rfl
                      | true => rw [hdown q mm i hLq hmm hb] at hLi; cases hLi
                    · rw [← kn, hkst ops.size (Nat.le_refl _), hkst m hm]
                      refine cntL_mono l0 0 fun q y hy _ hq => ?_
                      rw [Nat.zero_add, decide_eq_true_eq] at hq ⊢
                      omega
                refine wp_surg (R := fun v w3 => ∃ j2, j1.le j2 ∧ RV μ j2 (vs i) v ∧ Rel μ (fun q => B q ∨ ∃ e, E L m e ∧ q = fz e) w2 j2 (S (ks m)) w3) hopeq rfl hinj ?_ K Q ?_
                · intro K' Q' hk'
                  exact exec_ok hμ g8 ht2 hcall c1 (by rw [hexec_of τx hlooks]; exact hsame) K' Q' fun j2 v w3 hj2 hv hr3 => hk' v w3 ⟨j2, hj2, hv, hr3⟩
                · intro v w3 ⟨j2, hj2, hv, hr3⟩
                  exact fin m j2 v w3 (.inl ⟨rfl, hact⟩) hj2 hv hr3
            · rw [if_neg (by rw [guard_ok c2 rfl ht2 (by rw [hwant_of τx hlooks]; exact hw)]; simp)]
              exact fin m j1 undef w1 (.inl ⟨rfl, hact⟩) (J.le.refl _) (by rw [hvu]; exact ⟨#[], rfl, rfl⟩) g8
      have main : ∀ (fuel : Nat) (listed : Array Bool) (a1 : Act) (w1 : World), listed.size = ops.size → unl (fun q => listed.getD q false) ops.size ≤ fuel → Inv (fun q => listed.getD q false) a1 w1 → Down (fun q => listed.getD q false) → wpAny P .any ops Q fuel listed a1 w1 := by
        -- where nothing is ready, all have come up
        have alldone : ∀ listed : Array Bool, listed.size = ops.size → Region.ready .any ops listed = [] → ∀ i, i < ops.size → listed.getD i false = true := by
          intro listed hsz hnil i
          induction i using Nat.strongRecOn with
          | ind i ih =>
            intro hi
            cases hLi : listed.getD i false with
            | true => rfl
            | false =>
              have hmem : i ∈ Region.ready .any ops listed := by
                rw [mem_ready]
                refine ⟨?_, ops[i], Array.getElem?_eq_getElem hi, fun e he hb => ?_⟩
                · have : i < listed.size := by omega
                  simp only [Array.getD_eq_getD_getElem?, Array.getElem?_eq_getElem this, Option.getD_some] at hLi ⊢
                  exact hLi
                · have := edges_ok ops.toList 0 hedge i ops[i] (by simp [hi]) e (by simpa using he) hb
                  exact ih e.on (by omega) (by omega)
              rw [hnil] at hmem
              cases hmem
        have finish : ∀ (listed : Array Bool) (a1 : Act) (w1 : World), listed.size = ops.size → (∀ i, i < ops.size → listed.getD i false = true) → Inv (fun q => listed.getD q false) a1 w1 → Q .normal a1 w1 := by
          intro listed a1 w1 hsz hall ⟨m, hm, _, _, _, hfr, j1, fz, w2, hj1, hn1, hd1, g4, g5, g6, g7, g8, g9, g10⟩
          have hmn : m = ops.size := by
            rcases hfr with h | ⟨y, hy, _, hLm⟩
            · exact h
            · have hm' : m < ops.size := by rw [← hn0]; exact (List.getElem?_eq_some_iff.1 hy).1
              have hLm' : listed.getD m false = false := hLm
              rw [hall m hm'] at hLm'; cases hLm'
          subst hmn
          have hE0 : ∀ e, ¬ E (fun q => listed.getD q false) ops.size e := by
            rintro e ⟨_, h1, h2⟩
            have h2' : listed.getD e false = true := h2
            rw [Array.getD_eq_getD_getElem?, Array.getElem?_eq_none (by omega)] at h2'
            cases h2'
          have hr1 : Rel μ B w0 j1 (S (ks ops.size)) w1 := g8.unbase (fun q h => .inl h) g6 hr.held
          rw [kn, ← hσ'] at hr1
          refine hq j1 a1 w1 hj1 (fun t => ?_) hr1 hn1 hd1
          rw [← en, valN_lex e0 hdst ops.size (by omega)]
          rw [← valN_same (L := fun q => listed.getD q false) ops.size fun q hq _ => hall q hq]
          exact g9 t (by rintro ⟨e, f, he, _⟩; exact hE0 e he)
        intro fuel
        induction fuel with
        | zero =>
          intro listed a1 w1 hsz hun hinv hdown
          have hall := unl_zero (L := fun q => listed.getD q false) ops.size (by omega)
          refine ⟨?_, finish listed a1 w1 hsz hall hinv⟩
          cases hrd : Region.ready .any ops listed with
          | nil => rfl
          | cons i r =>
            have hmem : i ∈ Region.ready .any ops listed := by rw [hrd]; simp
            obtain ⟨h1, o, ho, _⟩ := mem_ready.1 hmem
            have hi : i < ops.size := (Array.getElem?_eq_some_iff.1 ho).1
            have := hall i hi
            simp only [Array.getD_eq_getD_getElem?, Array.getElem?_eq_getElem (show i < listed.size by omega), Option.getD_some] at this h1
            rw [h1] at this; cases this
        | succ fuel ih =>
          intro listed a1 w1 hsz hun hinv hdown
          refine ⟨fun hnil => finish listed a1 w1 hsz (alldone listed hsz hnil) hinv, fun i hmem => ?_⟩
          obtain ⟨h1, o, ho, h2⟩ := mem_ready.1 hmem
          have hi : i < ops.size := (Array.getElem?_eq_some_iff.1 ho).1
          have hLi : listed.getD i false = false := by
            simp only [Array.getD_eq_getD_getElem?, Array.getElem?_eq_getElem (show i < listed.size by omega), Option.getD_some] at h1 ⊢
            exact h1
          have hset : (fun q => (listed.setIfInBounds i true).getD q false) = fun q => listed.getD q false || q == i := by
            funext q
            by_cases e : q = i
            · subst e
              simp only [Array.getD_eq_getD_getElem?, Array.getElem?_setIfInBounds_self_of_lt (show q < listed.size by omega), Option.getD_some, beq_self_eq_true, Bool.or_true]
            · have e2 : (q == i) = false := by simpa using e
              simp only [Array.getD_eq_getD_getElem?, Array.getElem?_setIfInBounds_ne (Ne.symm e), e2, Bool.or_false]
          refine step (fun q => listed.getD q false) a1 w1 i o _ hinv hdown hLi (fun q hq => by
            show listed.getD q false = false
            rw [Array.getD_eq_getD_getElem?, Array.getElem?_eq_none (by omega)]; rfl) ho h2 fun a2 w2 hinv2 => ?_
          refine ih (listed.setIfInBounds i true) a2 w2 (by simpa using hsz) ?_ (by rw [hset]; exact hinv2) ?_
          · rw [hset]
            have := unl_add (L := fun q => listed.getD q false) hLi ops.size hi
            omega
          · rw [hset]
            intro i2 m2 p hL2 hm2 hb2
            simp only [Bool.or_eq_true, beq_iff_eq] at hL2 ⊢
            left
            rcases hL2 with hL2 | rfl
            · exact hdown i2 m2 p hL2 hm2 hb2
            · obtain ⟨e, he, hbd, h⟩ := masks_ok ops.toList [] i2 o m2 (by simpa using ho) (by rw [hmsv]; simpa using hm2) p hb2
              have hLe := h2 e (by simpa using he) hbd
              rcases h with rfl | ⟨m', hm', hp'⟩
              · exact hLe
              · rw [hmsv] at hm'
                exact hdown _ _ _ hLe hm' hp'
      refine wp_region_any hmix (main ops.size _ a _ (by simp) ?_ ?_ ?_)
      · have aux : ∀ (L : Nat → Bool) (n : Nat), unl L n ≤ n := by
          intro L n
          induction n with
          | zero => exact Nat.le_refl _
          | succ n ih =>
            simp only [unl]
            have : (!L n).toNat ≤ 1 := Bool.toNat_le _
            omega
        exact aux _ _
      · have hfalse : (fun q => (Array.replicate ops.size false).getD q false) = fun _ => false := by
          funext q
          simp only [Array.getD_eq_getD_getElem?, Array.getElem?_replicate]
          split <;> rfl
        rw [hfalse]
        have hE0 : ∀ e, ¬ E (fun _ => false) 0 e := fun e he => by cases he.2.2
        refine advance ops.size 0 _ _ _ (by omega) (Nat.zero_le _) (fun i m p h => by cases h) (fun q y hq => absurd hq (by omega)) (fun q y _ _ _ h => by cases h) (fun e q he => (hE0 e he).elim) ?_
        refine ⟨j, fun _ => 0, w.drew, J.le.refl _, hn, rfl, fun e he => (hE0 e he).elim, fun e e' he => (hE0 e he).elim, hr.drew.below, fun e f k z he => (hE0 e he).elim, ?_, fun t _ => ?_, fun e f t he => (hE0 e he).elim⟩
        · rw [k0, hS00]
          refine hr.drew.rebase (fun _ h => .inl h) (fun k hk => ?_) (fun b blk g hg hj hB => ?_) (fun b i' g hg hj hB => ?_)
          · rcases hk with hk | ⟨e, he, _⟩
            · exact hr.drew.base k hk
            · exact (hE0 e he).elim
          · obtain ⟨g', _, _, q1, q2, _⟩ := hr.get b blk hg
            rw [hj] at q1; cases q1
            rcases hB with hB | ⟨e, he, _⟩
            · exact q2 hB
            · exact (hE0 e he).elim
          · obtain ⟨g', _, q1, q2, _⟩ := hr.iter b i' hg
            rw [hj] at q1; cases q1
            rcases hB with hB | ⟨e, he, _⟩
            · exact q2 hB
            · exact (hE0 e he).elim
        · have : valN l0 vs τ (fun _ => false) t ops.size = (X.t t).ev τ := by
            have := valN_above (l := l0) (vs := vs) (τ := τ) (L := fun _ => false) (t := t) 0 ops.size fun m _ _ => rfl
            rw [Nat.zero_add] at this
            exact this
          rw [this]
          exact ht t
      · have hfalse : (fun q => (Array.replicate ops.size false).getD q false) = fun _ => false := by
          funext q
          simp only [Array.getD_eq_getD_getElem?, Array.getElem?_replicate]
          split <;> rfl
        rw [hfalse]
        intro i m p h
        cases h
theorem cFloats_fr {nt : Nat} {ops : Array Oper} {k : K} (h : cFloats P nt ops = some k) : ∃ l, k = .fr l none [] := by
  unfold cFloats at h
  split at h
  · cases h
  · simp only at h
    split at h
    · cases h; exact ⟨_, rfl⟩
    · cases h
theorem floats_ok (hμ : Marks μ) {call : CallA} (hcall : CallsOK P μ call) {nt : Nat} {ops : Array Oper} {l : List O} (hc : cFloats P nt ops = some (.fr l none [])) (hx : runDraw call l τ [σ] 0 [] = some (τ', σ'))
    (ht : RT μ j τ a) (hr : Rel μ B w0 j σ w) (hn : a.tmps.size = nt) (hmix : P.follows .mixedOrders = true) {Q : Exit → Act → World → Prop} (hq : After μ B w0 j nt a τ' σ' (Q .normal)) {id : Nat} : (Code.region id ops true).wp P Q a w := by
  unfold cFloats at hc
  split at hc
  · cases hc
  · rename_i l0 hl0
    simp only at hc
    split at hc
    · rename_i hchk
      simp only [Option.some.injEq, K.fr.injEq, and_true] at hc
      simp only [Bool.and_eq_true, Nat.ble_eq] at hchk
      obtain ⟨⟨hedge, hnt⟩, hall⟩ := hchk
      obtain ⟨hlen0, hops0⟩ := cOpers_nth hl0
      have hn0 : l0.length = ops.size := by simpa using hlen0
      obtain ⟨ext, hms, hmslen⟩ := masks_pre ops.toList []
      generalize hmsv : masks ops.toList [] = ms at hc hall hms
      have hlenms : l0.length = ms.length := by
        rw [hms, List.nil_append, hmslen, hlen0]
      generalize floatsL ops l0 ms = fl at hall
      unfold chkAll at hall
      simp only [Bool.and_eq_true] at hall
      obtain ⟨⟨⟨⟨⟨hp, hb⟩, hf⟩, hd⟩, hal⟩, hsel⟩ := hall
      obtain ⟨hlenl, hwith⟩ := withRd_nth l0 ms l0 ms 0 hlenms
      rw [hc] at hlenl hwith
      obtain ⟨hfh, N, _, _, hS0, _, hlex, hσ'⟩ := runDraw_lex l τ [σ] 0 [] τ' σ' rfl hx
      generalize atH hfh N = S at hS0 hlex hσ'
      have hS00 : S 0 = σ := by rw [hS0 0 (Nat.le_refl _)]; rfl
      obtain ⟨τs, vs, ks, e0, k0, en, kn, hstep⟩ := lex_fun hlex
      rw [hlenl, hn0] at en kn
      have hmem : ∀ p, fl.contains p = true → p ∈ fl := fun p h => by simpa using h
      have mget : ∀ (i m : Nat), ms[i]? = some m → ms.getD i 0 = m := fun i m h => by rw [List.getD_eq_getElem?_getD, h]; rfl
      have lget : ∀ (i : Nat) (x : O), l0[i]? = some x → i < l0.length := fun i x h => (List.getElem?_eq_some_iff.1 h).1
      refine drawG_core hμ hcall hl0 hmsv hc hedge hnt hlenms (F := fun p => fl.contains p) ?_ ?_ ?_ ?_ ?_ ?_ hS00 e0 k0 en kn hstep hσ' ht hr hn hmix hq
      · intro p f hF hf'
        rw [List.all_eq_true] at hal
        have h1 := hal p (hmem p hF)
        unfold alOk at h1
        rw [hf'] at h1
        obtain ⟨x0, q1, q2⟩ : ∃ o, ops[p]? = some o ∧ cOper P nt ops o = some f := by
          have hi : p < ops.size := by rw [← hn0]; exact lget p f hf'
          obtain ⟨x0, q1, q2⟩ := hops0 p ops[p] (by simp [hi])
          rw [hf'] at q1; cases q1
          exact ⟨ops[p], Array.getElem?_eq_getElem hi, q2⟩
        rw [q1] at h1
        simp only at h1
        split at h1
        · rename_i e z e' hfc hop
          have hcof := (cOper_ok q2).1
          rw [hfc] at hcof
          unfold cOp cOp0 at hcof
          rw [hop] at hcof
          simp only at hcof
          cases hzz : zeroA P e' with
          | none => rw [hzz] at hcof; cases hcof
          | some z' =>
            rw [hzz] at hcof; cases hcof
            exact ⟨_, _, x0, hfc, q1, hop, by simpa using h1, hzz⟩
        · cases h1
      · intro p p' f f' t hF hF' hf1 hf2 hd1 hd2
        unfold chkDst at hd
        rw [List.all_eq_true] at hd
        have h1 := hd p (hmem p hF)
        rw [List.all_eq_true] at h1
        have h2 := h1 p' (hmem p' hF')
        simp only [Bool.or_eq_true, Nat.beq_eq] at h2
        rcases h2 with h2 | h2
        · exact h2
        · unfold dstNe at h2
          rw [hf1, hf2] at h2
          simp only [hd1, hd2] at h2
          simp at h2
      · intro i o ho cs b e
        rw [List.all_eq_true] at hsel
        have := hsel o (by rw [Array.mem_toList_iff]; exact Array.mem_of_getElem? ho)
        unfold notSel at this
        rw [e] at this
        cases this
      · intro i i' x x' m hlt h1 h2 h3
        unfold chkPairs at hp
        rw [List.all_eq_true] at hp
        have q1 := hp i' (by rw [List.mem_range]; exact lget i' x' h2)
        rw [List.all_eq_true] at q1
        have q2 := q1 i (by rw [List.mem_range]; exact hlt)
        rw [h1, h2] at q2
        simp only [mget i' m h3] at q2
        cases hbit : bit m i with
        | true => exact .inl rfl
        | false =>
          right
          simp only [pairG, hbit, Bool.false_or, Bool.and_eq_true, Bool.or_eq_true, Bool.not_eq_true'] at q2
          exact ⟨q2.1.1, names_none q2.1.2, names_none q2.2⟩
      · intro p i m hF hlt hnF hm
        unfold chkBehind at hb
        rw [List.all_eq_true] at hb
        have q1 := hb p (hmem p hF)
        rw [List.all_eq_true] at q1
        have q2 := q1 i (by rw [List.mem_range, hlenms]; exact (List.getElem?_eq_some_iff.1 hm).1)
        simp only [mget i m hm, Bool.or_eq_true, Nat.ble_eq, Bool.and_eq_true] at q2
        rcases q2 with (q2 | q2) | ⟨q2, q3⟩
        · omega
        · rw [hnF] at q2; cases q2
        · refine ⟨q2, fun q y hq hy hya => ?_⟩
          rw [List.all_eq_true] at q3
          have := q3 q (by rw [List.mem_range]; exact hq)
          simpa [actAt, hy, hya] using this
      · intro p i mp f o hF hf' hmp hlt hbit ho y hy
        unfold chkFree at hf
        rw [List.all_eq_true] at hf
        have q1 := hf p (hmem p hF)
        rw [hf'] at q1
        simp only at q1
        rw [List.all_eq_true] at q1
        have q2 := q1 i (by rw [List.mem_range]; exact hlt)
        rw [mget p mp hmp, hbit, ho] at q2
        simp only [Bool.false_or] at q2
        rw [List.all_eq_true] at q2
        exact q2 y (by simpa using hy)
    · cases hc
end
end Go.Proofs.YtpflpjkbiopmpaaGreatDoor.Ev
