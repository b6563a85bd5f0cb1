/-
  The evaluator of panics by recursors: what the kernel runs. It gives what evM gives. No program is named here.
-/
import Derived.Test.YtpflpjkbiopmpaaGreatDoorEvZ
import Derived.Test.YtpflpjkbiopmpaaGreatDoorEvQ
set_option linter.unusedVariables false
set_option linter.unusedSimpArgs false
set_option linter.unnecessarySimpa false
set_option linter.all false
namespace Go.Proofs.YtpflpjkbiopmpaaGreatDoor.Ev
open Go
noncomputable section

def pnZ (v : AV) (σ : Mem) : Option (AV × Mem) := AV.rec (motive_1 := fun _ => Mem → Option (AV × Mem)) (motive_2 := fun _ => PUnit) (fun _ => fun _ => none) (fun _ _ => fun _ => none) (fun _ _ => fun _ => none) (fun _ => none) (fun _ _ => fun _ => none) (fun _ => none) (fun _ _ _ _ => fun _ => none) (fun _ => none) (fun _ _ _ _ _ => fun _ => none) (fun _ => none) (fun t v _ => fun σ => some (.ifc t v, σ)) (fun _ => fun _ => none) (fun _ => fun _ => none) (fun _ => none) (fun _ _ _ _ => fun _ => none) (fun _ _ _ _ => fun _ => none) (fun _ _ => fun _ => none) (fun _ _ => fun _ => none) (fun _ _ => fun _ => none) PUnit.unit (fun _ _ _ _ => PUnit.unit) v σ
theorem pnZ_eq (x : X) (τ : T) (σ : Mem) : pnZ (x.ev τ) σ = (match x.ev τ with | .ifc t v => some (.ifc t v, σ) | _ => none) := by cases x.ev τ <;> rfl
def opPZ : C → CallA → T → Mem → Option (AV × Mem) := C.rec (motive := fun _ => CallA → T → Mem → Option (AV × Mem))
  (fun _ _ _ _ => none)
  (fun _ _ _ _ _ _ => none)
  (fun _ _ _ _ _ => none)
  (fun _ _ _ _ _ => none)
  (fun _ _ _ _ _ => none)
  (fun _ _ _ _ _ _ _ _ => none)
  (fun _ _ _ _ _ => none)
  (fun _ _ _ _ _ _ => none)
  (fun _ _ _ _ => none)
  (fun _ _ _ _ _ _ => none)
  (fun _ _ _ _ _ _ => none)
  (fun _ _ _ _ _ => none)
  (fun _ _ _ _ _ => none)
  (fun _ _ _ _ _ => none)
  (fun _ _ _ _ => none)
  (fun _ _ _ _ => none)
  (fun _ _ _ _ _ _ => none)
  (fun _ _ _ _ _ _ => none)
  (fun _ _ _ _ _ _ _ => none)
  (fun _ _ _ _ _ => none)
  (fun _ _ _ _ _ _ => none)
  (fun _ _ _ _ _ _ => none)
  (fun _ _ _ _ _ _ _ => none)
  (fun _ _ _ _ _ => none)
  (fun _ _ _ _ _ _ _ _ => none)
  (fun _ _ _ _ _ => none)
  (fun f xs pan τ σ => pan f (evsZ xs τ) σ)
  (fun f xs pan τ σ => pan f (evsZ xs τ) σ)
  (fun _ _ _ _ _ => none)
  (fun _ _ _ _ _ _ _ _ => none)
  (fun _ _ _ _ => none)
  (fun _ _ _ _ => none)
  (fun _ _ _ _ _ => none)
  (fun _ _ _ _ _ => none)
  (fun _ _ _ _ _ _ => none)
  (fun _ _ _ _ _ _ => none)
  (fun _ _ _ _ => none)
  (fun _ _ _ _ _ => none)
  (fun _ _ _ _ => none)
  (fun _ _ _ _ _ _ => none)
  (fun _ _ _ _ => none)
  (fun _ _ _ _ _ _ => none)
  (fun _ _ _ _ => none)
  (fun _ _ _ _ => none)
  (fun _ _ _ _ => none)
  (fun _ _ _ _ _ => none)
  (fun _ _ _ _ => none)
  (fun _ _ _ _ _ => none)
  (fun _ _ _ _ _ => none)
  (fun _ _ _ _ _ => none)
  (fun x _ τ σ => pnZ (evX x τ) σ)
  (fun _ _ _ _ => none)
  (fun _ _ _ _ _ _ _ => none)
  (fun _ _ _ _ _ => none)
  (fun _ _ _ _ _ => none)
  (fun _ _ _ _ _ => none)
  (fun _ _ _ _ _ _ _ _ _ => none)
  (fun _ _ _ => none)
  (fun _ _ _ _ _ _ _ => none)
  (fun _ _ _ _ _ _ => none)
  (fun _ _ _ _ _ _ => none)
  (fun _ _ _ _ _ _ => none)
  (fun _ _ _ _ _ => none)
  (fun _ _ _ => none)
theorem opPZ_eq (c : C) (pan : CallA) (τ : T) (σ : Mem) : opPZ c pan τ σ = opP pan c τ σ := by
  cases c with
  | cf f xs => simp only [opPZ, evsZ_eq]; rfl
  | cp f xs => simp only [opPZ, evsZ_eq]; rfl
  | pn x => simp only [opPZ, evX_eq]; exact pnZ_eq ..
  | _ => rfl
abbrev RunP := CallA → CallA → T → Mem → StP
def endP : Option (AV × Mem) → T → StP := Option.rec (motive := fun _ => T → StP) (fun _ => none) (fun p τ => some (p.1, τ, p.2))
def stepP : Option (AV × Mem) → Option Nat → C → RunP → CallA → CallA → T → Mem → StP := Option.rec (motive := fun _ => Option Nat → C → RunP → CallA → CallA → T → Mem → StP) (fun _ c _ _ pan τ σ => endP (opPZ c pan τ σ) τ) (fun p d _ k call pan τ _ => Prod.rec (motive := fun _ => Option Nat → RunP → CallA → CallA → T → StP) (fun v σ d k call pan τ => k call pan (putZ τ d v) σ) p d k call pan τ)
def gateP : Option Bool → Option Nat → C → RunP → CallA → CallA → T → Mem → StP := Option.rec (motive := fun _ => Option Nat → C → RunP → CallA → CallA → T → Mem → StP) (fun _ _ _ _ _ _ _ => none) (fun b => Bool.rec (motive := fun _ => Option Nat → C → RunP → CallA → CallA → T → Mem → StP) (fun d _ k call pan τ σ => k call pan (putZ τ d undefA) σ) (fun d c k call pan τ σ => stepP (execZ c call τ σ) d c k call pan τ σ) b)
def runPZ : List O → RunP := List.rec (motive := fun _ => RunP) (fun _ _ _ _ => none) (fun o _ ih call pan τ σ => O.rec (motive := fun _ => RunP → CallA → CallA → T → Mem → StP) (fun d g c _ k call pan τ σ => gateP (wantG g τ) d c k call pan τ σ) o ih call pan τ σ)
theorem runPZ_eq (call pan : CallA) : ∀ l τ σ, runPZ l call pan τ σ = runOpsP call pan l τ σ
  | [], τ, σ => rfl
  | ⟨d, g, c, rd⟩ :: r, τ, σ => by
    show gateP (wantG g τ) d c (runPZ r) call pan τ σ = _
    rw [wantG_eq]
    simp only [runOpsP]
    cases wantA g τ with
    | none => rfl
    | some b =>
      cases b with
      | false =>
        show runPZ r call pan (putZ τ d undefA) σ = _
        rw [putZ_eq, runPZ_eq call pan r]
      | true =>
        show stepP (execZ c call τ σ) d c (runPZ r) call pan τ σ = _
        rw [execZ_eq]
        cases hx : execA call c τ σ with
        | none =>
          show endP (opPZ c pan τ σ) τ = _
          rw [opPZ_eq]
          simp only
          rcases opP pan c τ σ with _ | ⟨v, s⟩ <;> rfl
        | some p =>
          obtain ⟨v, s⟩ := p
          show runPZ r call pan (putZ τ d v) s = _
          rw [putZ_eq, runPZ_eq call pan r]
abbrev KP := CallA → CallA → Nat → T → Mem → StP
def seqPE : E → T × Mem → KP → CallA → CallA → Nat → StP := E.rec (motive := fun _ => T × Mem → KP → CallA → CallA → Nat → StP) (fun p k call pan L => k call pan L p.1 p.2) (fun _ _ _ _ _ _ => none) (fun _ _ _ _ _ => none)
def seqPZ : St → KP → KP → CallA → CallA → Nat → T → Mem → StP := Option.rec (motive := fun _ => KP → KP → CallA → CallA → Nat → T → Mem → StP) (fun a _ call pan L τ σ => a call pan L τ σ) (fun p _ b call pan L _ _ => seqPE p.1 p.2 b call pan L)
abbrev KPA := T → Mem → StP
def condPZ (c : AV) (a b : KPA) (τ : T) (σ : Mem) : StP := AV.rec (motive_1 := fun _ => KPA → KPA → T → Mem → StP) (motive_2 := fun _ => PUnit) (fun x => fun a b τ σ => Bool.rec (b τ σ) (a τ σ) x) (fun _ _ => fun _ _ _ _ => none) (fun _ _ => fun _ _ _ _ => none) (fun _ _ _ _ => none) (fun _ _ => fun _ _ _ _ => none) (fun _ _ _ _ => none) (fun _ _ _ _ => fun _ _ _ _ => none) (fun _ _ _ _ => none) (fun _ _ _ _ _ => fun _ _ _ _ => none) (fun _ _ _ _ => none) (fun _ _ _ => fun _ _ _ _ => none) (fun _ => fun _ _ _ _ => none) (fun _ => fun _ _ _ _ => none) (fun _ _ _ _ => none) (fun _ _ _ _ => fun _ _ _ _ => none) (fun _ _ _ _ => fun _ _ _ _ => none) (fun _ _ => fun _ _ _ _ => none) (fun _ _ => fun _ _ _ _ => none) (fun _ _ => fun _ _ _ _ => none) PUnit.unit (fun _ _ _ _ => PUnit.unit) c a b τ σ
def iterPE : E → T × Mem → KPA → StP := E.rec (motive := fun _ => T × Mem → KPA → StP) (fun p k => k p.1 p.2) (fun _ _ _ => none) (fun _ _ => none)
def iterPS : St → KPA → KPA → T → Mem → StP := Option.rec (motive := fun _ => KPA → KPA → T → Mem → StP) (fun _ b τ σ => b τ σ) (fun p k _ _ _ => iterPE p.1 p.2 k)
def iterPZ : Nat → KA → KPA → KPA := Nat.rec (motive := fun _ => KA → KPA → KPA) (fun _ _ _ _ => none) (fun _ ih body bodyP τ σ => iterPS (body τ σ) (ih body bodyP) bodyP τ σ)
theorem iterPZ_eq (body : KA) (bodyP : KPA) : ∀ n τ σ, iterPZ n body bodyP τ σ = iterP body bodyP n τ σ
  | 0, _, _ => rfl
  | n + 1, τ, σ => by
    show iterPS (body τ σ) (iterPZ n body bodyP) bodyP τ σ = _
    simp only [iterP]
    rcases body τ σ with _ | ⟨e, τ', σ'⟩
    · rfl
    · cases e with
      | nrm => exact iterPZ_eq body bodyP n τ' σ'
      | exit id => rfl
      | ret => rfl
def evKPZ : K → KP := K.rec (motive := fun _ => KP)
  (fun _ _ _ _ _ => none)
  (fun ops call pan _ τ σ => runPZ ops call pan τ σ)
  (fun _ _ _ _ _ _ => none)
  (fun _ _ _ _ _ _ _ _ => none)
  (fun a _ iha ihb call pan L τ σ => seqPZ (evKZ a call L τ σ) iha ihb call pan L τ σ)
  (fun c _ _ iha ihb call pan L τ σ => condPZ (evX c τ) (iha call pan L) (ihb call pan L) τ σ)
  (fun _ _ ih call pan L τ σ => ih call pan L τ σ)
  (fun c ih call pan L τ σ => iterPZ L (evKZ c call L) (ih call pan L) τ σ)
  (fun _ _ _ _ _ _ => none)
  (fun _ _ _ _ _ => none)
  (fun _ _ _ _ _ => none)
theorem evKPZ_eq (call pan : CallA) (L : Nat) : ∀ k τ σ, evKPZ k call pan L τ σ = evKP call pan L k τ σ
  | .skip, τ, σ => rfl
  | .reg ops, τ, σ => runPZ_eq call pan ops τ σ
  | .dreg ops, τ, σ => rfl
  | .fr ops fa us, τ, σ => rfl
  | .seq a b, τ, σ => by
    show seqPZ (evKZ a call L τ σ) (evKPZ a) (evKPZ b) call pan L τ σ = _
    rw [evKZ_eq]
    simp only [evKP]
    rcases evK call L a τ σ with _ | ⟨e, τ', σ'⟩
    · exact evKPZ_eq call pan L a τ σ
    · cases e with
      | nrm => exact evKPZ_eq call pan L b τ' σ'
      | exit id => rfl
      | ret => rfl
  | .cond c a b, τ, σ => by
    show condPZ (evX c τ) (evKPZ a call pan L) (evKPZ b call pan L) τ σ = _
    rw [evX_eq]
    simp only [evKP]
    cases c.ev τ with
    | b x =>
      cases x with
      | false => exact evKPZ_eq call pan L b τ σ
      | true => exact evKPZ_eq call pan L a τ σ
    | _ => rfl
  | .block id c, τ, σ => evKPZ_eq call pan L c τ σ
  | .loop c, τ, σ => by
    show iterPZ L (evKZ c call L) (evKPZ c call pan L) τ σ = _
    have h1 : evKZ c call L = evK call L c := by funext τ σ; exact evKZ_eq call L c τ σ
    have h2 : evKPZ c call pan L = evKP call pan L c := by funext τ σ; exact evKPZ_eq call pan L c τ σ
    rw [h1, h2, iterPZ_eq]; rfl
  | .exit id, τ, σ => rfl
  | .ret, τ, σ => rfl
  | .no, τ, σ => rfl
def cloZ (call : CallA) (L : Nat) (D : D) (args : List AV) (v : AV) (σ : Mem) : Option Mem :=
  if Nat.ble (lenL args 0) D.gnt then
    (match runZ D.gpre call (Tr.set 30 (argsA args 0 .e) D.gd (some v)) σ with
    | some (τ, σ) => (match evKZ D.grest call L τ σ with
      | some (.exit _, _, _) => none
      | some (_, _, σ) => some σ
      | none => none)
    | none => none)
  else none
theorem cloZ_eq : cloZ = cloA := by
  funext call L D args v σ
  simp only [cloZ, runZ_eq, evKZ_eq]
  rfl
def dfrZ (call pan : CallA) (L : Nat) (D : D) (args : List AV) (σ : Mem) : Option (AV × Mem) :=
  if Nat.ble (lenL args 0) D.nt then
    (match runZ D.pre call (argsA args 0 .e) σ with
    | some (τ, σ) => (match evKZ D.rest call L (Tr.set 30 τ D.d (some (.f D.g (evs τ D.first) (evs τ D.cap)))) σ with
      | some (.exit _, _, _) => none
      | some (_, τ', σ') => endD τ' D.res (cloZ call L D (evs τ D.first ++ evs τ D.cap) .ni σ')
      | none => (match evKPZ D.rest call pan L (Tr.set 30 τ D.d (some (.f D.g (evs τ D.first) (evs τ D.cap)))) σ with
        | some (v, τ', σ') => endD τ' D.res (cloZ call L D (evs τ D.first ++ evs τ D.cap) v σ')
        | none => none))
    | none => none)
  else none
theorem dfrZ_eq : dfrZ = dfrA := by
  funext call pan L D args σ
  simp only [dfrZ, runZ_eq, evKZ_eq, evKPZ_eq, cloZ_eq]
  rfl
abbrev FsT := Nat → Option F
abbrev DsT := Nat → Option D
def dsZ : Option D → List AV → CallA → CallA → Nat → Mem → Option (AV × Mem) := Option.rec (motive := fun _ => List AV → CallA → CallA → Nat → Mem → Option (AV × Mem)) (fun _ _ _ _ _ => none) (fun D args call pan L σ => dfrZ call pan L D args σ)
def fnZ : Option F → DsT → Nat → List AV → CallA → CallA → Nat → Mem → Option (AV × Mem) := Option.rec (motive := fun _ => DsT → Nat → List AV → CallA → CallA → Nat → Mem → Option (AV × Mem)) (fun ds f args call pan L σ => dsZ (ds f) args call pan L σ) (fun g _ _ args call _ L σ => bodyZ g args call L σ)
def orZ : Option AV → FsT → DsT → Nat → List AV → CallA → CallA → Nat → Mem → Option (AV × Mem) := Option.rec (motive := fun _ => FsT → DsT → Nat → List AV → CallA → CallA → Nat → Mem → Option (AV × Mem)) (fun fs ds f args call pan L σ => fnZ (fs f) ds f args call pan L σ) (fun v _ _ _ _ _ _ _ σ => some (v, σ))
def dropT : StP → Option (AV × Mem) := Option.rec none (fun p => some (p.1, p.2.2))
def bodyP (g : F) (args : List AV) (call pan : CallA) (L : Nat) (σ : Mem) : Option (AV × Mem) := F.rec (motive := fun _ => List AV → CallA → CallA → Nat → Mem → Option (AV × Mem)) (fun nt _ k args call pan L σ => Bool.rec none (dropT (evKPZ k call pan L (argsZ args (nat_lit 0) .e) σ)) (Nat.ble (lenZ args) nt)) g args call pan L σ
def fnP : Option F → List AV → CallA → CallA → Nat → Mem → Option (AV × Mem) := Option.rec (motive := fun _ => List AV → CallA → CallA → Nat → Mem → Option (AV × Mem)) (fun _ _ _ _ _ => none) (fun g args call pan L σ => bodyP g args call pan L σ)
def evMZ : Nat → FsT → DsT → (Nat → List AV → Option AV) → Nat → Bool → CallA := Nat.rec (motive := fun _ => FsT → DsT → (Nat → List AV → Option AV) → Nat → Bool → CallA) (fun _ _ _ _ _ _ _ _ => none)
  (fun _ ih fs ds orc L b => Bool.rec (motive := fun _ => FsT → DsT → (Nat → List AV → Option AV) → CallA → CallA → Nat → CallA) (fun fs ds orc call pan L f args σ => orZ (orc f args) fs ds f args call pan L σ) (fun fs _ _ call pan L f args σ => fnP (fs f) args call pan L σ) b fs ds orc (ih fs ds orc L false) (ih fs ds orc L true) L)
theorem bodyZ_eq (g : F) (args : List AV) (call : CallA) (L : Nat) (σ : Mem) : bodyZ g args call L σ = (if Nat.ble (lenL args 0) g.nt then (match evK call L g.body (argsA args 0 .e) σ with
          | some (.exit _, _, _) => none
          | some (_, τ, σ) => (match resA τ σ g.res with | some l => some (tupA l, σ) | none => none)
          | none => none) else none) := by
  obtain ⟨nt, r, k⟩ := g
  show Bool.rec (motive := fun _ => Option (AV × Mem)) none (endZ (evKZ k call L (argsZ args 0 .e) σ) r) (Nat.ble (lenZ args) nt) = _
  simp only [lenZ_eq args 0, argsZ_eq, evKZ_eq]
  show _ = (if Nat.ble (lenZ args) nt then _ else none)
  cases Nat.ble (lenZ args) nt with
  | false => rfl
  | true =>
    rcases evK call L k (argsA args 0 .e) σ with _ | ⟨e, τ', σ'⟩
    · rfl
    · have hr : resE (resZ r τ' σ') σ' = (match resA τ' σ' r with | some l => some (tupA l, σ') | none => none) := by
        rw [resZ_eq]
        cases resA τ' σ' r with
        | none => rfl
        | some l => exact congrArg (fun v => some (v, σ')) (tupZ_eq l)
      cases e with
      | nrm => exact hr
      | exit id => rfl
      | ret => exact hr
theorem evMZ_eq (fs : FsT) (ds : DsT) (orc : Nat → List AV → Option AV) (L : Nat) : ∀ n b, evMZ n fs ds orc L b = evM fs ds orc L n b
  | 0, b => by cases b <;> (funext f args σ; simp only [evM]; rfl)
  | n + 1, false => by
    funext f args σ
    show orZ (orc f args) fs ds f args (evMZ n fs ds orc L false) (evMZ n fs ds orc L true) L σ = _
    rw [evMZ_eq fs ds orc L n, evMZ_eq fs ds orc L n]
    simp only [evM]
    cases orc f args with
    | some v => rfl
    | none =>
      show fnZ (fs f) ds f args _ _ L σ = _
      cases fs f with
      | some g => exact bodyZ_eq g args _ L σ
      | none =>
        show dsZ (ds f) args _ _ L σ = _
        cases ds f with
        | none => rfl
        | some D => show dfrZ _ _ L D args σ = _; rw [dfrZ_eq]
  | n + 1, true => by
    funext f args σ
    show fnP (fs f) args (evMZ n fs ds orc L false) (evMZ n fs ds orc L true) L σ = _
    rw [evMZ_eq fs ds orc L n, evMZ_eq fs ds orc L n]
    simp only [evM]
    cases fs f with
    | none => rfl
    | some g =>
      obtain ⟨nt, r, k⟩ := g
      show Bool.rec (motive := fun _ => Option (AV × Mem)) none (dropT (evKPZ k (evM fs ds orc L n false) (evM fs ds orc L n true) L (argsZ args 0 .e) σ)) (Nat.ble (lenZ args) nt) = _
      simp only [lenZ_eq args 0, argsZ_eq, evKPZ_eq]
      show _ = (if Nat.ble (lenZ args) nt then _ else none)
      cases Nat.ble (lenZ args) nt with
      | false => rfl
      | true => rcases evKP (evM fs ds orc L n false) (evM fs ds orc L n true) L k (argsA args 0 .e) σ with _ | ⟨v, τ', σ'⟩ <;> rfl
end
section
variable {P : Program} {μ : Mu}
/-- a table of functions that recover. -/
noncomputable def lookD : List (Nat × D) → Nat → Option D := List.rec (motive := fun _ => Nat → Option D) (fun _ => none) (fun p _ ih f => Bool.rec (ih f) (some p.2) (Nat.beq p.1 f))
def DabOK (P : Program) : List (Nat × D) → Prop
  | [] => True
  | p :: r => dsOf P p.1 = some p.2 ∧ DabOK P r
theorem lookD_ok : ∀ (l : List (Nat × D)), DabOK P l → ∀ f g, lookD l f = some g → dsOf P f = some g
  | [], _, _, _, h => by cases h
  | p :: r, hl, f, g, h => by
    have h' : Bool.rec (motive := fun _ => Option D) (lookD r f) (some p.2) (Nat.beq p.1 f) = some g := h
    cases e : Nat.beq p.1 f with
    | false => rw [e] at h'; exact lookD_ok r hl.2 f g h'
    | true =>
      rw [e] at h'
      cases h'
      rw [← Nat.eq_of_beq_eq_true e]
      exact hl.1
/-- **A closed run**, by the evaluator of recursors. -/
theorem run_okY (hμ : Marks μ) {orc : Nat → List AV → Option AV} (horc : OrcOK P μ orc) (hmix : P.follows .mixedOrders = true) {fs : FsT} (hfs : ∀ f g, fs f = some g → fsOf P f = some g) {ds : DsT} (hds : ∀ f g, ds f = some g → dsOf P f = some g) {L n f : Nat} {args : List AV} {x : AV} {σ' : Mem} (h : evMZ n fs ds orc L false f args mem0 = some (x, σ')) (w : World) (hw : Held μ w) (vs : List Value) (hl : RL μ j0 args vs) :
    Calls P f vs.toArray w fun e w' => ∃ (j' : J) (v : Value), e = .returned v ∧ RV μ j' x v ∧ Rel μ (· < w.heap.size) w j' σ' w' := by
  rw [evMZ_eq] at h
  exact run_okM hμ hfs hds horc hmix h w hw vs hl
end
end Go.Proofs.YtpflpjkbiopmpaaGreatDoor.Ev
