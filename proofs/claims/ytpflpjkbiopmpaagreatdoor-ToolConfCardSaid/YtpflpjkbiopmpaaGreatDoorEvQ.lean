/-
  The function that recovers; calls that return and calls that panic, together. No program is named here.
-/
import Derived.Test.YtpflpjkbiopmpaaGreatDoorEvP
set_option linter.unusedVariables false
set_option linter.unusedSimpArgs false
set_option linter.unnecessarySimpa false
set_option linter.all false
namespace Go.Proofs.YtpflpjkbiopmpaaGreatDoor.Ev
open Go Go.RowKit

section
variable {P : Program} {μ : Mu} {B : Nat → Prop} {w0 : World}
theorem results_ok {j : J} {τ : T} {σ : Mem} {w : World} {fn : Func} {a1 : Act} {rs : List RV0} {xs : List AV} (ht : RT μ j τ a1) (hr : Rel μ B w0 j σ w) (hrs : cRes P fn.results.toList = some rs) (hxs : resA τ σ rs = some xs) :
    ∃ v, (results fn a1.tmps).run P w = .ok v w ∧ RV μ j (tupA xs) v := by
  obtain ⟨vs1, hrun, hrl⟩ := res_ok (P := P) (tmps := a1.tmps) (df := a1.defers) ht hr fn.results.toList rs xs hrs hxs
  rw [results_eq, Array.mapM_eq_mapM_toList]
  simp only [Sem.run_bind, Sem.run_map, hrun, Result.andThen_ok, Sem.run_pure]
  refine ⟨if h : vs1.toArray.size = 1 then vs1.toArray[0] else .tuple vs1.toArray, ?_, ?_⟩
  · rfl
  · cases xs with
    | nil => cases hrl; exact ⟨#[], rfl, rfl⟩
    | cons y r =>
      obtain ⟨u, t, rfl, h1, h2⟩ := hrl
      cases r with
      | nil => cases h2; exact h1
      | cons z r =>
        obtain ⟨u2, t2, rfl, h3, h4⟩ := h2
        rw [dif_neg (by simp)]
        exact ⟨_, rfl, u, _, rfl, h1, u2, t2, rfl, h3, h4⟩
theorem start_ok {j : J} {nt : Nat} {args : List AV} {vs : List Value} (hnt : nt ≤ 1000000000) (hlen : args.length ≤ nt) (hl : RL μ j args vs) :
    RT μ j (argsA args 0 .e) ⟨vs.toArray ++ Array.replicate (nt - vs.toArray.size) undef, []⟩ ∧ (vs.toArray ++ Array.replicate (nt - vs.toArray.size) undef).size = nt := by
  have hvl := RL.len _ _ hl
  refine ⟨?_, by simp; omega⟩
  intro t
  simp only [X.ev, argsA_get args 0 .e (by omega), Tr.get_e]
  by_cases e : t < args.length
  · rw [if_pos ⟨by omega, by omega⟩, Nat.sub_zero, List.getElem?_eq_getElem e]
    obtain ⟨v, hv, hrv⟩ := RL.nth _ _ hl t _ (List.getElem?_eq_getElem e)
    simp only [Array.getD_eq_getD_getElem?]
    rw [Array.getElem?_append_left (by simp; omega)]
    have : vs.toArray[t]? = some v := by simpa using hv
    rw [this]
    exact hrv
  · rw [if_neg (by omega)]
    simp only [Array.getD_eq_getD_getElem?]
    rw [Array.getElem?_append_right (by simp; omega), Array.getElem?_replicate]
    split <;> exact ⟨#[], rfl, rfl⟩
theorem opsS_step {ops : Array Oper} {Q : Exit → Act → List Frame → World → Prop} {rest : List Nat} {o : Oper} {a : Act} {cs : List Frame} {w : World}
    (h : o.wp P a w (fun a' w' => wpOpsS P ops Q rest a' cs w') (fun e a' w' => Q e a' cs w')) :
    (match (execOp a.eval o).run P w with
        | .ok .recover w' =>
          match recoverD cs with
          | some (v, cs') => wpOpsS P ops Q rest (a.put o.dst v) cs' w'
          | none => wpOpsS P ops Q rest (a.put o.dst .nilIface) cs w'
        | r => o.upon P a (fun a' w' => wpOpsS P ops Q rest a' cs w') (fun e a' w' => Q e a' cs w') r) := by
  unfold Oper.wp at h
  split
  · rename_i w' hr
    rw [hr] at h
    exact h.elim
  · exact h
theorem runOpsS_ok (hμ : Marks μ) {call : CallA} (hcall : CallsOK P μ call) {nt : Nat} {ops : Array Oper} {Q : Exit → Act → List Frame → World → Prop} {cs : List Frame} :
    ∀ (l : List Oper) (k : Nat) (ol : List O) (τ τ' : T) (σ σ' : Mem) (j : J) (a : Act) (w : World), (∀ i : Nat, l[i]? = ops[k + i]?) → cOpers P nt ops l = some ol → runOps call ol τ σ = some (τ', σ') →
      RT μ j τ a → Rel μ B w0 j σ w → a.tmps.size = nt → After μ B w0 j nt a τ' σ' (fun a' w' => Q .normal a' cs w') → wpOpsS P ops Q (List.range' k l.length) a cs w
  | [], k, ol, τ, τ', σ, σ', j, a, w, _, hc, hx, ht, hr, hn, hq => by
    cases hc
    cases hx
    exact hq j a w (J.le.refl _) ht hr hn rfl
  | o :: r, k, ol, τ, τ', σ, σ', j, a, w, hl, hc, hx, ht, hr, hn, hq => by
    simp only [cOpers] at hc
    split at hc
    · rename_i x ol' hx' hol'
      cases hc
      obtain ⟨h1, h2, h3, h4, _⟩ := cOper_ok hx'
      have ho : ops[k]? = some o := by have := hl 0; simpa using this.symm
      have hl' : ∀ i : Nat, r[i]? = ops[k + 1 + i]? := fun i => by
        have := hl (i + 1)
        simpa [Nat.add_assoc, Nat.add_comm 1 i] using this
      simp only [List.length_cons, List.range'_succ, wpOpsS, ho]
      simp only [runOps] at hx
      split at hx
      · rename_i hw
        rw [if_pos (guard_ok h2 rfl ht hw)]
        split at hx
        · rename_i v s hv
          refine opsS_step (exec_ok hμ hr ht hcall h1 hv _ _ fun j' u w' hj hu hr' => ?_)
          refine runOpsS_ok hμ hcall r (k + 1) ol' _ τ' s σ' j' (a.put o.dst u) w' hl' hol' hx (by rw [h3]; exact (ht.mono hj).put h4 hn hu) hr' (by rw [put_size]; exact hn) ?_
          intro j2 a2 w2 hj2 ht2 hr2 hn2 hd2
          exact hq j2 a2 w2 (hj.trans hj2) ht2 hr2 hn2 (by rw [hd2, put_defers])
        · cases hx
      · rename_i hw
        rw [if_neg (by rw [guard_ok h2 rfl ht hw]; simp)]
        refine runOpsS_ok hμ hcall r (k + 1) ol' _ τ' σ σ' j (a.put o.dst undef) w hl' hol' hx (by rw [h3]; exact ht.put h4 hn ⟨#[], rfl, rfl⟩) hr (by rw [put_size]; exact hn) ?_
        intro j2 a2 w2 hj2 ht2 hr2 hn2 hd2
        exact hq j2 a2 w2 hj2 ht2 hr2 hn2 (by rw [hd2, put_defers])
      · cases hx
    · cases hc
/-- the closure that recovers, entered by a defer: in which mode, what recover gives there. -/
def Recovers (u : FrameMode) (rv : Value) : Prop :=
  ∀ (c₀ : Frame) (cs : List Frame), c₀.mode = u → (∃ u', recoverD (c₀ :: cs) = some (rv, { c₀ with mode := u' } :: cs) ∧ settle u' = .returning) ∨ (recoverD (c₀ :: cs) = none ∧ rv = .nilIface ∧ settle u = .returning)
theorem recovers_ret : Recovers .returning .nilIface := fun c₀ cs h => .inr ⟨by simp [recoverD, h], rfl, rfl⟩
theorem recovers_panic (v : Value) : Recovers (.panicking (chainOf v)) v := fun c₀ cs h => .inl ⟨.panicking [{ v, recovered := true }], by simp [recoverD, h, chainOf], rfl⟩
theorem wanted_of {y : Nat → Option Bool} {o : Oper} (h : o.guard.isNone = true) : Region.wanted o y = true := by
  unfold Region.wanted
  cases hg : o.guard with
  | none => rfl
  | some p => rw [hg] at h; cases h
theorem clo_ok (hμ : Marks μ) {call : CallA} (hcall : CallsOK P μ call) (hmix : P.follows .mixedOrders = true) {L : Nat} {D : D} (hg : cClo P D.g = some (D.gnt, D.gd, D.gpre, D.grest)) {args : List AV} {v : AV} {σ σ' : Mem} (hx : cloA call L D args v σ = some σ')
    {j : J} {w : World} {vs : List Value} (hl : RL μ j args vs) (hr : Rel μ B w0 j σ w) {rv : Value} (hv : RV μ j v rv) {u : FrameMode} (hu : Recovers u rv) :
    CallsD P D.g vs.toArray u w fun e u' w' => (∃ val, e = .returned val) ∧ settle u' = .returning ∧ ∃ j', j.le j' ∧ Rel μ B w0 j' σ' w' := by
  unfold cClo at hg
  split at hg
  · rename_i fn hfn
    split at hg
    · cases hg
    · rename_i hname
      simp only [Bool.or_eq_true, not_or, Bool.not_eq_true] at hname
      have hnt' : fn.ntmps ≤ 1000000000 := by
        have := hname.2
        have h3 : ¬ (1000000000 < fn.ntmps) := by
          intro h
          have : Nat.blt 1000000000 fn.ntmps = true := by simpa [Nat.blt_eq] using h
          rw [this] at hname; cases hname.2
        omega
      split at hg
      · rename_i rid ops rest hb
        split at hg
        · rename_i o r hops
          split at hg
          · rename_i hrec
            simp only [Bool.and_eq_true] at hrec
            split at hg
            · rename_i d l k hd hlo hk
              split at hg <;> first | (cases hg; done) | skip
              rename_i hdok
              simp only [Option.some.injEq, Prod.mk.injEq] at hg
              obtain ⟨g1, g2, g3, g4⟩ := hg
              unfold cloA at hx
              split at hx
              · rename_i hble
                rw [← g1] at hble
                have hlen : args.length ≤ fn.ntmps := by
                  rw [lenL_eq, Nat.add_zero] at hble
                  simpa using hble
                obtain ⟨hrt, hsz⟩ := start_ok (μ := μ) (j := j) hnt' hlen hl
                split at hx
                · rename_i τ1 σ1 hpre
                  split at hx <;> first | (cases hx; done) | skip
                  · rename_i ex τ2 σ2 hne hev
                    cases hx
                    refine callsD_of_wpS hfn hb fun c₀ cs hc₀ => ?_
                    refine wpS_seq ?_
                    refine wpS_region ?_
                    have hops' : ops.size = r.length + 1 := by rw [← Array.length_toList, hops]; rfl
                    rw [hops', List.range_eq_range', List.range'_succ]
                    have ho0 : ops[0]? = some o := by rw [← Array.getElem?_toList, hops]; rfl
                    simp only [wpOpsS, ho0]
                    unfold isRec at hrec
                    obtain ⟨hrec1, hrec2⟩ := hrec
                    split at hrec1 <;> first | (cases hrec1; done) | skip
                    rename_i oargs oats hoop
                    rw [if_pos (wanted_of hrec1)]
                    have hrun : (execOp (Act.eval ⟨vs.toArray ++ Array.replicate (fn.ntmps - vs.toArray.size) undef, []⟩) o).run P w = .ok .recover w := by
                      simp [execOp, hoop, resolve, invoke, builtin]
                    rw [hrun]
                    simp only
                    -- what follows, in whichever mode the caller is left
                    have rest_ok : ∀ (cs' : List Frame), (∃ u', cs' = { c₀ with mode := u' } :: cs ∧ settle u' = .returning) →
                        wpOpsS P ops (Exit.thenS (rest.wpS P (bodyPostS P fn c₀ cs fun e u' w' => (∃ val, e = .returned val) ∧ settle u' = .returning ∧ ∃ j', j.le j' ∧ Rel μ B w0 j' σ' w')) (bodyPostS P fn c₀ cs fun e u' w' => (∃ val, e = .returned val) ∧ settle u' = .returning ∧ ∃ j', j.le j' ∧ Rel μ B w0 j' σ' w'))
                          (List.range' 1 r.length) (Act.put ⟨vs.toArray ++ Array.replicate (fn.ntmps - vs.toArray.size) undef, []⟩ o.dst rv) cs' w := by
                      intro cs' ⟨u', hcs', hset⟩
                      have ht1 : RT μ j (Tr.set 30 (argsA args 0 .e) D.gd (some v)) (Act.put ⟨vs.toArray ++ Array.replicate (fn.ntmps - vs.toArray.size) undef, []⟩ o.dst rv) := by
                        have := RT.put (d := o.dst) hrt (by rw [hd]; exact hdok) hsz hv
                        rw [hd] at this ⊢
                        rw [← g2]
                        exact this
                      rw [← g3] at hpre
                      refine runOpsS_ok hμ hcall (ops := ops) r 1 l _ τ1 σ σ1 j _ w (fun i => ?_) hlo hpre ht1 hr (by rw [put_size]; exact hsz) ?_
                      · rw [← Array.getElem?_toList, hops, Nat.add_comm 1 i]; rfl
                      · intro j1 a1 w1 hj1 ht1 hr1 hn1 hd1
                        show rest.wpS P _ a1 cs' w1
                        refine wpS_of_wp ?_
                        rw [← g4] at hev
                        refine evK_ok hμ hcall hmix rest k τ1 σ1 ex τ2 σ' j1 a1 w1 _ hk hev ht1 hr1 hn1 ?_
                        intro j2 a2 w2 hj2 ht2 hr2 hn2 hd2
                        have hdef : a2.defers = [] := by rw [hd2, hd1, put_defers]
                        have hres0 : fn.results.toList = [] := by simpa using hrec2
                        obtain ⟨val, hval, _⟩ := results_ok (P := P) (fn := fn) (rs := []) (xs := []) ht2 hr2 (by rw [hres0]; rfl) rfl
                        have fin : a2.defers = [] ∧ ∃ u', cs' = { c₀ with mode := u' } :: cs ∧ ∃ v, (results fn a2.tmps).run P w2 = .ok v w2 ∧ ((∃ val, Ending.returned v = .returned val) ∧ settle u' = .returning ∧ ∃ j', j.le j' ∧ Rel μ B w0 j' σ' w2) :=
                          ⟨hdef, u', hcs', val, hval, ⟨val, rfl⟩, hset, j2, hj1.trans hj2, hr2⟩
                        cases ex with
                        | nrm => exact fin
                        | exit id => exact (hne id rfl).elim
                        | ret => exact fin
                    rcases hu c₀ cs hc₀ with ⟨u', h1, h2⟩ | ⟨h1, h2, h3⟩
                    · rw [h1]
                      exact rest_ok _ ⟨u', rfl, h2⟩
                    · rw [h1]
                      subst h2
                      exact rest_ok _ ⟨u, by rw [← hc₀], h3⟩
                · cases hx
              · cases hx
            · cases hg
          · cases hg
        · cases hg
      · cases hg
  · cases hg
theorem CallsD.mono {f : FuncId} {args : Array Value} {u : FrameMode} {w : World} {R R' : Ending → FrameMode → World → Prop} (h : CallsD P f args u w R) (k : ∀ e u' w', R e u' w' → R' e u' w') : CallsD P f args u w R' := by
  intro c cs hc
  obtain ⟨e, u', w', fr, h1, h2⟩ := h c cs hc
  exact ⟨e, u', w', fr, k _ _ _ h1, h2⟩
theorem dfr_ok (hμ : Marks μ) {call pan : CallA} (hcall : CallsOK P μ call) (hpan : PansOK P μ pan) (hmix : P.follows .mixedOrders = true) {L : Nat} {D : D} {f : Nat} (hd : dsOf P f = some D) {args : List AV} {x : AV} {σ σ' : Mem} (hx : dfrA call pan L D args σ = some (x, σ'))
    {j : J} {w : World} {vs : List Value} (hr : Rel μ B w0 j σ w) (hl : RL μ j args vs) :
    (∃ fn, P.funcs[f]? = some fn ∧ fn.body.isNone = false ∧ (fn.name == "runtime.NumGoroutine") = false) ∧
    Calls P f vs.toArray w fun e w' => ∃ (j' : J) (v : Value), e = .returned v ∧ j.le j' ∧ RV μ j' x v ∧ Rel μ B w0 j' σ' w' := by
  unfold dsOf at hd
  split at hd <;> first | (cases hd; done) | skip
  rename_i fn hfn
  unfold cDfr at hd
  split at hd
  · cases hd
  · rename_i hname
    simp only [Bool.or_eq_true, not_or, Bool.not_eq_true] at hname
    have hnt' : fn.ntmps ≤ 1000000000 := by
      have h3 : ¬ (1000000000 < fn.ntmps) := by
        intro h
        have : Nat.blt 1000000000 fn.ntmps = true := by simpa [Nat.blt_eq] using h
        rw [this] at hname; cases hname.2
      omega
    split at hd <;> first | (cases hd; done) | skip
    rename_i r0 ops0 r1 ops1 rest res hb hres
    split at hd <;> first | (cases hd; done) | skip
    rename_i mk df hops1
    split at hd <;> first | (cases hd; done) | skip
    rename_i g first cap d hmk hmkd hmkg
    split at hd <;> first | (cases hd; done) | skip
    rename_i hdf
    simp only [Bool.and_eq_true] at hdf
    split at hd <;> first | (cases hd; done) | skip
    rename_i pre a' b' k gnt gd gpre grest hpre hfirst hcap hk hclo
    cases hd
    unfold dfrA at hx
    split at hx <;> first | (cases hx; done) | skip
    rename_i hble
    simp only at hble hx
    have hlen : args.length ≤ fn.ntmps := by
      rw [lenL_eq, Nat.add_zero] at hble
      simpa using hble
    refine ⟨⟨fn, hfn, by rw [hb]; rfl, hname.1⟩, ?_⟩
    obtain ⟨hrt, hsz⟩ := start_ok (μ := μ) (j := j) hnt' hlen hl
    split at hx <;> first | (cases hx; done) | skip
    rename_i τ1 σ1 hpre1
    refine calls_of_wp_defers hfn hb (wp_seq (wp_region ?_))
    have hrest : ∀ (j1 : J) (a1 : Act) (w1 : World), j.le j1 → RT μ j1 τ1 a1 → Rel μ B w0 j1 σ1 w1 → a1.tmps.size = fn.ntmps → a1.defers = [] →
        (Code.seq (.region r1 ops1 false) rest).wp P (bodyPostD P fn fun e w' => ∃ (j' : J) (v : Value), e = .returned v ∧ j.le j' ∧ RV μ j' x v ∧ Rel μ B w0 j' σ' w') a1 w1 := by
      intro j1 a1 w1 hj1 ht1 hr1 hn1 hd1
      refine wp_seq (wp_region ?_)
      have hsize : ops1.size = 2 := by rw [← Array.length_toList, hops1]; rfl
      have ho0 : ops1[0]? = some mk := by rw [← Array.getElem?_toList, hops1]; rfl
      have ho1 : ops1[1]? = some df := by rw [← Array.getElem?_toList, hops1]; rfl
      rw [hsize, show List.range 2 = [0, 1] from rfl]
      simp only [wpOps, ho0, ho1]
      rw [if_pos (wanted_of (by rw [hmkg]; rfl))]
      have hcmk : cOp P mk = .mf g a' b' := by
        unfold cOp
        simp only [cOp0, hmk, hfirst, hcap]; rfl
      refine .inl (exec_ok (x := .f g (evs τ1 a') (evs τ1 b')) (σ' := σ1) hμ hr1 ht1 hcall hcmk rfl _ _ fun j2 u w2 hj2 hu hr2 => ?_)
      unfold isDef at hdf
      obtain ⟨hdf1, hdf2⟩ := hdf
      split at hdf1 <;> first | (cases hdf1; done) | skip
      rename_i e dargs dats hdop
      simp only [Bool.and_eq_true] at hdf1
      obtain ⟨⟨⟨hde, hda⟩, hdg⟩, hdd⟩ := hdf1
      obtain rfl := Nat.eq_of_beq_eq_true hde
      have hda' : dargs = #[] := by rw [← Array.toList_inj]; simpa using hda
      subst hda'
      rw [if_pos (wanted_of hdg)]
      have ht2 : RT μ j2 (Tr.set 30 τ1 e (some (.f g (evs τ1 a') (evs τ1 b')))) (a1.put mk.dst u) := by
        have := RT.put (d := mk.dst) (ht1.mono hj2) (by rw [hmkd]; exact hdf2) hn1 hu
        rw [hmkd] at this ⊢
        exact this
      obtain ⟨va, vc, hev, hva, hvc⟩ : ∃ va vc, (a1.put mk.dst u).eval (.tmp e) = .func (.func g) va vc ∧ RL μ j2 (evs τ1 a') va.toList ∧ RL μ j2 (evs τ1 b') vc.toList := by
        have h5 := xOf_ok (x := .tmp e) rfl ht2
        have he30 : e ≤ 1000000000 := by
          have h6 := hdf2
          unfold dstOk at h6
          simp only [Bool.and_eq_true, Nat.blt_eq] at h6
          exact Nat.le_of_lt h6.2
        have h7 : (X.t e).ev (Tr.set 30 τ1 e (some (.f g (evs τ1 a') (evs τ1 b')))) = .f g (evs τ1 a') (evs τ1 b') := by
          simp only [X.ev, Tr.get_set30 _ _ _ _ he30, if_pos]
        rw [h7] at h5
        exact h5
      have hrun : (execOp (a1.put mk.dst u).eval df).run P w2 = .ok (.defer { target := .fn (.func g) vc, args := va ++ #[] }) w2 := by
        simp [execOp, hdop, resolve, hev, Deferred.ofValue]
      refine .inl ?_
      unfold Oper.wp
      rw [hrun, Oper.upon_defer]
      have hdd' : df.dst = none := by simpa using hdd
      rw [hdd']
      show rest.wp P (bodyPostD P fn _) { a1.put mk.dst u with defers := { target := .fn (.func g) vc, args := va ++ #[] } :: (a1.put mk.dst u).defers } w2
      have hd2 : (a1.put mk.dst u).defers = [] := by rw [put_defers, hd1]
      rw [hd2]
      have hn2 : (a1.put mk.dst u).tmps.size = fn.ntmps := by rw [put_size]; exact hn1
      have ht2' : RT μ j2 (Tr.set 30 τ1 e (some (.f g (evs τ1 a') (evs τ1 b')))) { a1.put mk.dst u with defers := [{ target := .fn (.func g) vc, args := va ++ #[] }] } := ht2
      -- leaving, in either mode
      have leave : ∀ (um : FrameMode) (v : AV) (rv : Value) (j3 : J) (a3 : Act) (w3 : World) (τ3 : T) (σ3 σ4 : Mem) (xs : List AV), um ≠ .run → Recovers um rv → RV μ j3 v rv → j2.le j3 → RT μ j3 τ3 a3 → Rel μ B w0 j3 σ3 w3 →
          cloA call L ⟨fn.ntmps, res, pre, g, a', b', e, k, gnt, gd, gpre, grest⟩ (evs τ1 a' ++ evs τ1 b') v σ3 = some σ4 → resA τ3 σ4 res = some xs → x = tupA xs → σ' = σ4 →
          Leaves P fn a3.tmps (fun e w' => ∃ (j' : J) (v : Value), e = .returned v ∧ j.le j' ∧ RV μ j' x v ∧ Rel μ B w0 j' σ' w') [{ target := .fn (.func g) vc, args := va ++ #[] }] um w3 := by
        intro um v rv j3 a3 w3 τ3 σ3 σ4 xs hum hrec hrv hj3 ht3 hr3 hclo1 hxs hx1 hx2
        obtain ⟨gfn, hg1, hg2, hg3⟩ : ∃ gfn, P.funcs[g]? = some gfn ∧ gfn.body.isNone = false ∧ (gfn.name == "runtime.NumGoroutine") = false := by
          have h8 := hclo
          unfold cClo at h8
          split at h8 <;> first | (cases h8; done) | skip
          rename_i gfn hgfn
          split at h8 <;> first | (cases h8; done) | skip
          rename_i hgn
          simp only [Bool.or_eq_true, not_or, Bool.not_eq_true] at hgn
          split at h8 <;> first | (cases h8; done) | skip
          rename_i hgb
          exact ⟨gfn, hgfn, by rw [hgb]; rfl, hgn.1⟩
        refine ⟨hum, .func g, vc, g, (va.toList ++ vc.toList).toArray, rfl, ?_, ?_⟩
        · show (callFunc g ((va ++ #[]) ++ vc)).run P w3 = _
          rw [run_callFunc hg1 hg2 hg3]
          simp
        · refine CallsD.mono (clo_ok hμ hcall hmix (D := ⟨fn.ntmps, res, pre, g, a', b', e, k, gnt, gd, gpre, grest⟩) hclo hclo1 ((RL.mono hj3 _ _ hva).append (RL.mono hj3 _ _ hvc)) hr3 hrv hrec) ?_
          intro en u' w4 ⟨⟨val, hval⟩, hset, j4, hj4, hr4⟩
          subst hval
          show Leaves P fn a3.tmps _ [] (settle u') w4
          rw [hset]
          obtain ⟨v5, h51, h52⟩ := results_ok (ht3.mono hj4) hr4 hres hxs
          exact ⟨v5, h51, j4, v5, rfl, ((hj1.trans hj2).trans hj3).trans hj4, by rw [hx1]; exact h52, by rw [hx2]; exact hr4⟩
      have endD_ok : ∀ {τ3 : T} {o : Option Mem}, endD τ3 res o = some (x, σ') → ∃ σ4 xs, o = some σ4 ∧ resA τ3 σ4 res = some xs ∧ x = tupA xs ∧ σ' = σ4 := by
        intro τ3 o h
        unfold endD at h
        split at h <;> first | (cases h; done) | skip
        split at h <;> cases h
        exact ⟨_, _, rfl, by assumption, rfl, rfl⟩
      split at hx <;> first | (cases hx; done) | skip
      · rename_i ex τ2 σ2 hne hev2
        obtain ⟨σ4, xs, h41, h42, h43, h44⟩ := endD_ok hx
        refine evK_ok hμ hcall hmix rest k _ σ1 ex τ2 σ2 j2 _ w2 _ hk hev2 ht2' hr2 hn2 ?_
        intro j3 a3 w3 hj3 ht3 hr3 hn3 hd3
        have fin : Leaves P fn a3.tmps (fun e w' => ∃ (j' : J) (v : Value), e = .returned v ∧ j.le j' ∧ RV μ j' x v ∧ Rel μ B w0 j' σ' w') a3.defers .returning w3 := by
          rw [hd3]
          exact leave .returning .ni .nilIface j3 a3 w3 τ2 σ2 σ4 xs (fun h => by cases h) recovers_ret rfl hj3 ht3 hr3 h41 h42 h43 h44
        cases ex with
        | nrm => exact fin
        | exit id => exact (hne id rfl).elim
        | ret => exact fin
      · rename_i hev2
        split at hx <;> first | (cases hx; done) | skip
        rename_i v τ2 σ2 hevp
        obtain ⟨σ4, xs, h41, h42, h43, h44⟩ := endD_ok hx
        refine evKP_ok hμ hcall hpan hmix rest k _ σ1 v τ2 σ2 j2 _ w2 _ hk hevp ht2' hr2 hn2 ?_
        intro j3 a3 w3 t y uu hxe hj3 ht3 hr3 hn3 hd3 huu
        show Leaves P fn a3.tmps _ a3.defers (.panicking (chainOf (.iface t uu))) w3
        rw [hd3]
        exact leave (.panicking (chainOf (.iface t uu))) v (.iface t uu) j3 a3 w3 τ2 σ2 σ4 xs (fun h => by cases h) (recovers_panic _) (by rw [hxe]; exact ⟨uu, rfl, huu⟩) hj3 ht3 hr3 h41 h42 h43 h44
    have := runOps_ok hμ hcall (ops := ops0) (Q := Exit.then ((Code.seq (.region r1 ops1 false) rest).wp P (bodyPostD P fn fun e w' => ∃ (j' : J) (v : Value), e = .returned v ∧ j.le j' ∧ RV μ j' x v ∧ Rel μ B w0 j' σ' w')) (bodyPostD P fn fun e w' => ∃ (j' : J) (v : Value), e = .returned v ∧ j.le j' ∧ RV μ j' x v ∧ Rel μ B w0 j' σ' w'))
      ops0.toList 0 pre _ τ1 σ σ1 j _ w (fun i => by simp) hpre hpre1 hrt hr hsz (fun j1 a1 w1 hj1 ht1 hr1 hn1 hd1 => hrest j1 a1 w1 hj1 ht1 hr1 hn1 hd1)
    rwa [Array.length_toList, ← List.range_eq_range'] at this
theorem body_of {f : Nat} {g : F} (hg : fsOf P f = some g) : ∃ (fn : Func) (b : Code), P.funcs[f]? = some fn ∧ fn.body = some b ∧ (fn.name == "runtime.NumGoroutine") = false ∧ fn.ntmps ≤ 1000000000 ∧ g.nt = fn.ntmps ∧ cRes P fn.results.toList = some g.res ∧ cCode P fn.ntmps b = some g.body := by
  unfold fsOf at hg
  split at hg <;> first | (cases hg; done) | skip
  rename_i fn hfn
  unfold cFunc at hg
  split at hg <;> first | (cases hg; done) | skip
  rename_i hname
  split at hg <;> first | (cases hg; done) | skip
  rename_i hnt
  split at hg <;> first | (cases hg; done) | skip
  rename_i b rs hb hrs
  split at hg <;> cases hg
  rename_i k hk
  exact ⟨fn, b, hfn, hb, by simpa using hname, by simp only [Nat.blt_eq] at hnt; omega, rfl, hrs, hk⟩
theorem evM_ok (hμ : Marks μ) {fs : Nat → Option F} (hfs : ∀ f g, fs f = some g → fsOf P f = some g) {ds : Nat → Option D} (hds : ∀ f g, ds f = some g → dsOf P f = some g) {orc : Nat → List AV → Option AV} (horc : OrcOK P μ orc) (hmix : P.follows .mixedOrders = true) (L : Nat) :
    ∀ n, CallsOK P μ (evM fs ds orc L n false) ∧ PansOK P μ (evM fs ds orc L n true)
  | 0 => ⟨fun f args σ x σ' h => by simp [evM] at h, fun f args σ x σ' h => by simp [evM] at h⟩
  | n + 1 => by
    obtain ⟨hc, hp⟩ := evM_ok hμ hfs hds horc hmix L n
    constructor
    · intro f args σ x σ' h B w0 j w vs hr hl
      simp only [evM] at h
      split at h
      · rename_i v hv
        cases h
        obtain ⟨h1, h2⟩ := horc f args x hv j w vs hr.heldW hl
        exact ⟨h1, h2.mono fun e w' ⟨v, he, hrv, hb⟩ => ⟨j, v, he, J.le.refl _, hrv, hr.later hb⟩⟩
      · split at h
        · rename_i g hg0
          obtain ⟨fn, b, hfn, hb, hname, hnt, hgn, hgr, hgb⟩ := body_of (hfs f g hg0)
          split at h <;> first | (cases h; done) | skip
          rename_i hble
          have hlen : args.length ≤ fn.ntmps := by
            rw [lenL_eq, Nat.add_zero, hgn] at hble
            simpa using hble
          refine ⟨⟨fn, hfn, by rw [hb]; rfl, hname⟩, ?_⟩
          obtain ⟨hrt, hsz⟩ := start_ok (μ := μ) (j := j) hnt hlen hl
          split at h <;> first | (cases h; done) | skip
          rename_i ex τ1 σ1 hne hev
          split at h <;> cases h
          rename_i xs hxs
          refine calls_of_wp hfn hb ?_
          refine evK_ok hμ hc hmix b g.body _ σ ex τ1 σ' j _ w _ hgb hev hrt hr hsz ?_
          intro j1 a1 w1 hj1 ht1 hr1 hn1 hd1
          obtain ⟨v, hv1, hv2⟩ := results_ok ht1 hr1 hgr hxs
          have : a1.defers = [] ∧ ∃ v, (results fn a1.tmps).run P w1 = .ok v w1 ∧ ∃ (j' : J) (v_1 : Value), Ending.returned v = .returned v_1 ∧ j.le j' ∧ RV μ j' (tupA xs) v_1 ∧ Rel μ B w0 j' σ' w1 :=
            ⟨hd1, v, hv1, j1, v, rfl, hj1, hv2, hr1⟩
          cases ex with
          | nrm => exact this
          | exit id => exact (hne id rfl).elim
          | ret => exact this
        · split at h <;> first | (cases h; done) | skip
          rename_i D hD
          exact dfr_ok hμ hc hp hmix (hds f D hD) h hr hl
    · intro f args σ x σ' h B w0 j w vs hr hl
      simp only [evM] at h
      split at h <;> first | (cases h; done) | skip
      rename_i g hg0
      obtain ⟨fn, b, hfn, hb, hname, hnt, hgn, hgr, hgb⟩ := body_of (hfs f g hg0)
      split at h <;> first | (cases h; done) | skip
      rename_i hble
      have hlen : args.length ≤ fn.ntmps := by
        rw [lenL_eq, Nat.add_zero, hgn] at hble
        simpa using hble
      refine ⟨⟨fn, hfn, by rw [hb]; rfl, hname⟩, ?_⟩
      obtain ⟨hrt, hsz⟩ := start_ok (μ := μ) (j := j) hnt hlen hl
      split at h <;> cases h
      rename_i τ1 hev
      refine calls_of_wp_defers hfn hb ?_
      refine evKP_ok hμ hc hp hmix b g.body _ σ x τ1 σ' j _ w _ hgb hev hrt hr hsz ?_
      intro j1 a1 w1 t y u hxe hj1 ht1 hr1 hn1 hd1 hu
      show Leaves P fn a1.tmps _ a1.defers (.panicking (chainOf (.iface t u))) w1
      rw [show a1.defers = [] from hd1]
      exact ⟨j1, t, y, u, hxe, rfl, hj1, hu, hr1⟩
/-- **A closed run**, panics and what recovers them among it. -/
theorem run_okM (hμ : Marks μ) {fs : Nat → Option F} (hfs : ∀ f g, fs f = some g → fsOf P f = some g) {ds : Nat → Option D} (hds : ∀ f g, ds f = some g → dsOf P f = some g) {orc : Nat → List AV → Option AV} (horc : OrcOK P μ orc) (hmix : P.follows .mixedOrders = true) {L n f : Nat} {args : List AV} {x : AV} {σ' : Mem} (h : evM fs ds orc L n false f args mem0 = some (x, σ')) (w : World) (hw : Held μ w) (vs : List Value) (hl : RL μ j0 args vs) :
    Calls P f vs.toArray w fun e w' => ∃ (j' : J) (v : Value), e = .returned v ∧ RV μ j' x v ∧ Rel μ (· < w.heap.size) w j' σ' w' :=
  (((evM_ok hμ hfs hds horc hmix L n).1 f args mem0 x σ' h (· < w.heap.size) w j0 w vs (rel0 w hw) hl).2).mono fun e w' ⟨j', v, he, _, hv, hr⟩ => ⟨j', v, he, hv, hr⟩
end
end Go.Proofs.YtpflpjkbiopmpaaGreatDoor.Ev
