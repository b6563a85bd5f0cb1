/-
  Calls that panic, and the function that recovers: what the small language says of them, and that it is the model's. No program is named here.
-/
import Derived.Test.YtpflpjkbiopmpaaGreatDoorEvK
import Derived.Recover
set_option linter.unusedVariables false
set_option linter.unusedSimpArgs false
set_option linter.unnecessarySimpa false
set_option linter.all false
namespace Go.Proofs.YtpflpjkbiopmpaaGreatDoor.Ev
open Go Go.RowKit

/-! ### What a run that panics is -/
abbrev StP := Option (AV × T × Mem)
def opP (pan : CallA) (c : C) (τ : T) (σ : Mem) : Option (AV × Mem) := match c with
  | .cf f xs => pan f (evs τ xs) σ
  | .cp f xs => pan f (evs τ xs) σ
  | .pn x => (match x.ev τ with | .ifc t v => some (.ifc t v, σ) | _ => none)
  | _ => none
def runOpsP (call pan : CallA) : List O → T → Mem → StP
  | [], _, _ => none
  | o :: r, τ, σ => match wantA o.g τ with
    | some true => (match execA call o.c τ σ with
      | some (v, σ') => runOpsP call pan r (putA τ o.d v) σ'
      | none => (match opP pan o.c τ σ with | some (v, σ') => some (v, τ, σ') | none => none))
    | some false => runOpsP call pan r (putA τ o.d undefA) σ
    | none => none
def iterP (body : T → Mem → St) (bodyP : T → Mem → StP) : Nat → T → Mem → StP
  | 0, _, _ => none
  | n + 1, τ, σ => match body τ σ with
    | some (.nrm, τ, σ) => iterP body bodyP n τ σ
    | some _ => none
    | none => bodyP τ σ
def evKP (call pan : CallA) (L : Nat) : K → T → Mem → StP
  | .reg ops, τ, σ => runOpsP call pan ops τ σ
  | .seq a b, τ, σ => match evK call L a τ σ with
    | some (.nrm, τ, σ) => evKP call pan L b τ σ
    | some _ => none
    | none => evKP call pan L a τ σ
  | .cond c a b, τ, σ => match c.ev τ with
    | .b true => evKP call pan L a τ σ
    | .b false => evKP call pan L b τ σ
    | _ => none
  | .block _ c, τ, σ => evKP call pan L c τ σ
  | .loop c, τ, σ => iterP (evK call L c) (evKP call pan L c) L τ σ
  | _, _, _ => none
/-- a function that defers a closure that recovers. -/
structure D where
  nt : Nat
  res : List RV0
  pre : List O
  g : Nat
  first : List X
  cap : List X
  d : Nat
  rest : K
  gnt : Nat
  gd : Nat
  gpre : List O
  grest : K
/-- the closure, handed what recover gives. -/
def cloA (call : CallA) (L : Nat) (D : D) (args : List AV) (v : AV) (σ : Mem) : Option Mem :=
  if Nat.ble (lenL args 0) D.gnt then
    (match runOps call D.gpre (Tr.set 30 (argsA args 0 .e) D.gd (some v)) σ with
    | some (τ, σ) => (match evK call L D.grest τ σ with
      | some (.exit _, _, _) => none
      | some (_, _, σ) => some σ
      | none => none)
    | none => none)
  else none
def endD (τ : T) (res : List RV0) (σ : Option Mem) : Option (AV × Mem) := match σ with
  | some σ => (match resA τ σ res with | some l => some (tupA l, σ) | none => none)
  | none => none
def dfrA (call pan : CallA) (L : Nat) (D : D) (args : List AV) (σ : Mem) : Option (AV × Mem) :=
  if Nat.ble (lenL args 0) D.nt then
    (match runOps call D.pre (argsA args 0 .e) σ with
    | some (τ, σ) => (match evK call L D.rest (Tr.set 30 τ D.d (some (.f D.g (evs τ D.first) (evs τ D.cap)))) σ with
      | some (.exit _, _, _) => none
      | some (_, τ', σ') => endD τ' D.res (cloA call L D (evs τ D.first ++ evs τ D.cap) .ni σ')
      | none => (match evKP call pan L D.rest (Tr.set 30 τ D.d (some (.f D.g (evs τ D.first) (evs τ D.cap)))) σ with
        | some (v, τ', σ') => endD τ' D.res (cloA call L D (evs τ D.first ++ evs τ D.cap) v σ')
        | none => none))
    | none => none)
  else none
/-- a call returns (false), or panics (true). -/
def evM (fs : Nat → Option F) (ds : Nat → Option D) (orc : Nat → List AV → Option AV) (L : Nat) : Nat → Bool → CallA
  | 0, _, _, _, _ => none
  | n + 1, false, f, args, σ => match orc f args with
    | some v => some (v, σ)
    | none => match fs f with
      | some g => if Nat.ble (lenL args 0) g.nt then (match evK (evM fs ds orc L n false) L g.body (argsA args 0 .e) σ with
          | some (.exit _, _, _) => none
          | some (_, τ, σ) => (match resA τ σ g.res with | some l => some (tupA l, σ) | none => none)
          | none => none)
        else none
      | none => match ds f with
        | some D => dfrA (evM fs ds orc L n false) (evM fs ds orc L n true) L D args σ
        | none => none
  | n + 1, true, f, args, σ => match fs f with
    | some g => if Nat.ble (lenL args 0) g.nt then (match evKP (evM fs ds orc L n false) (evM fs ds orc L n true) L g.body (argsA args 0 .e) σ with
        | some (v, _, σ) => some (v, σ)
        | none => none)
      else none
    | none => none

/-! ### From the program's text -/
def isRec (o : Oper) : Bool := match o.op with
  | .call ⟨.builtin .recover, _, _⟩ => o.guard.isNone
  | _ => false
def cClo (P : Program) (g : Nat) : Option (Nat × Nat × List O × K) := match P.funcs[g]? with
  | some fn => if fn.name == "runtime.NumGoroutine" || Nat.blt 1000000000 fn.ntmps then none else (match fn.body with
    | some (.seq (.region _ ops false) rest) => (match ops.toList with
      | o :: r => if isRec o && fn.results.toList.isEmpty then (match o.dst, cOpers P fn.ntmps ops r, cCode P fn.ntmps rest with
        | some d, some l, some k => if dstOk fn.ntmps (some d) then some (fn.ntmps, d, l, k) else none
        | _, _, _ => none) else none
      | [] => none)
    | _ => none)
  | none => none
def isDef (o : Oper) (d : Nat) : Bool := match o.op with
  | .defer ⟨.value (.tmp e), args, _⟩ => Nat.beq e d && args.toList.isEmpty && o.guard.isNone && o.dst.isNone
  | _ => false
def cDfr (P : Program) (fn : Func) : Option D := if fn.name == "runtime.NumGoroutine" || Nat.blt 1000000000 fn.ntmps then none else
  match fn.body, cRes P fn.results.toList with
  | some (.seq (.region _ ops0 false) (.seq (.region _ ops1 false) rest)), some res => (match ops1.toList with
    | [mk, df] => (match mk.op, mk.dst, mk.guard with
      | .makeFunc (.func g) first cap, some d, none => if isDef df d && dstOk fn.ntmps (some d) then
          (match cOpers P fn.ntmps ops0 ops0.toList, xsOf first.toList, xsOf cap.toList, cCode P fn.ntmps rest, cClo P g with
          | some pre, some a, some b, some k, some (gnt, gd, gpre, grest) => some ⟨fn.ntmps, res, pre, g, a, b, d, k, gnt, gd, gpre, grest⟩
          | _, _, _, _, _ => none) else none
      | _, _, _ => none)
    | _ => none)
  | _, _ => none
def dsOf (P : Program) (f : Nat) : Option D := match P.funcs[f]? with | some fn => cDfr P fn | none => none

/-! ### Panics -/
section
variable {P : Program} {μ : Mu} {B : Nat → Prop} {w0 : World}
def chainOf (u : Value) : List PanicEntry := [{ v := u, recovered := false }]
def PansOK (P : Program) (μ : Mu) (pan : CallA) : Prop :=
  ∀ (f : Nat) (args : List AV) (σ : Mem) (x : AV) (σ' : Mem), pan f args σ = some (x, σ') → ∀ (B : Nat → Prop) (w0 : World) (j : J) (w : World) (vs : List Value), Rel μ B w0 j σ w → RL μ j args vs →
    (∃ fn, P.funcs[f]? = some fn ∧ fn.body.isNone = false ∧ (fn.name == "runtime.NumGoroutine") = false) ∧
    Calls P f vs.toArray w fun e w' => ∃ (j' : J) (t : Nat) (y : AV) (u : Value), x = .ifc t y ∧ e = .panicked (chainOf (.iface t u)) ∧ j.le j' ∧ RV μ j' y u ∧ Rel μ B w0 j' σ' w'
/-- what stands behind a panic is asked in every state that it may leave. -/
def AfterP (μ : Mu) (B : Nat → Prop) (w0 : World) (j : J) (nt : Nat) (a : Act) (x : AV) (τ' : T) (σ' : Mem) (Q : Exit → Act → World → Prop) : Prop :=
  ∀ (j' : J) (a' : Act) (w' : World) (t : Nat) (y : AV) (u : Value), x = .ifc t y → j.le j' → RT μ j' τ' a' → Rel μ B w0 j' σ' w' → a'.tmps.size = nt → a'.defers = a.defers → RV μ j' y u → Q (.panic (chainOf (.iface t u))) a' w'
theorem opP_ok {call pan : CallA} (hcall : CallsOK P μ call) (hpan : PansOK P μ pan) {o : Oper} {c : C} {x : AV} {σ σ' : Mem} {τ : T} {j : J} {a : Act} {w : World} {nt : Nat} {Q : Exit → Act → World → Prop} {K : Act → World → Prop}
    (hc : cOp P o = c) (hx : opP pan c τ σ = some (x, σ')) (ht : RT μ j τ a) (hr : Rel μ B w0 j σ w) (hn : a.tmps.size = nt) (hq : AfterP μ B w0 j nt a x τ σ' Q) : o.wp P a w K Q := by
  unfold cOp at hc
  cases h : cOp0 P o with
  | none => rw [h] at hc; subst hc; cases hx
  | some c' =>
    rw [h] at hc
    have hc' : c' = c := hc
    subst hc'
    unfold opP at hx
    split at hx
    · rename_i f xs
      -- a call
      have key : ∃ args ats, o.op = .call ⟨.value (.func f), args, ats⟩ ∧ xsOf args.toList = some xs := by
        cases ho : o.op
        case call cl =>
          obtain ⟨callee, args, argTypes⟩ := cl
          cases callee with
          | invoke r m => simp only [cOp0, ho] at h; (repeat' split at h) <;> cases h
          | value q =>
            cases q with
            | func f' =>
              simp only [cOp0, ho] at h
              split at h
              · rename_i xs' hxs
                unfold callOp at h
                (repeat' split at h) <;> first | (cases h; done) | (cases h; exact ⟨_, _, rfl, hxs⟩)
              · cases h
            | tmp t => simp only [cOp0, ho] at h; (repeat' split at h) <;> cases h
            | const v => simp only [cOp0, ho] at h; (repeat' split at h) <;> cases h
            | global g => simp only [cOp0, ho] at h; (repeat' split at h) <;> cases h
          | builtin bi =>
            cases bi <;> simp only [cOp0, ho] at h <;> first | (cases h; done) | ((repeat' split at h) <;> cases h)
        case makeFunc fn f1 f2 => cases fn <;> simp only [cOp0, ho] at h <;> (repeat' split at h) <;> cases h
        case slice t y lo hi mx => cases mx <;> simp only [cOp0, ho] at h <;> (repeat' split at h) <;> cases h
        case makeMap t r => simp only [cOp0, ho] at h; (repeat' split at h) <;> cases h
        case next y isS => cases isS <;> simp only [cOp0, ho] at h <;> (repeat' split at h) <;> cases h
        case typeAssert y xt t ok => cases ok <;> simp only [cOp0, ho] at h <;> (repeat' split at h) <;> cases h
        case binOp op t y z yt =>
          simp only [cOp0, ho] at h
          split at h
          · unfold eqOp at h
            (repeat' split at h) <;> cases h
          · cases h
        case convert s d y =>
          simp only [cOp0, ho] at h
          unfold convOp at h
          (repeat' split at h) <;> cases h
        all_goals (simp only [cOp0, ho] at h; (repeat' split at h) <;> cases h)
      obtain ⟨args, ats, ho, hxs⟩ := key
      have hl := xsOf_ok hxs ht
      obtain ⟨⟨fn, h1, h2, h3⟩, hcl⟩ := hpan f _ σ x σ' hx B w0 j w _ hr hl
      have e : (args.toList.map a.eval).toArray = args.map a.eval := by rw [← Array.toList_map, Array.toArray_toList]
      rw [e] at hcl
      unfold Oper.wp
      have hrun : (execOp a.eval o).run P w = .ok (.enter f (args.map a.eval)) w := by
        simp [execOp, ho, resolve, Act.eval, Deferred.ofValue, invoke, run_callFunc h1 h2 h3]
      rw [hrun, Oper.upon_enter]
      refine hcl.mono fun e w' ⟨j', t, y, u, hxe, he, hj, hrv, hrel⟩ => ?_
      subst he
      exact hq j' a w' t y u hxe hj (ht.mono hj) hrel hn rfl hrv
    · rename_i f xs
      -- a call
      have key : ∃ args ats, o.op = .call ⟨.value (.func f), args, ats⟩ ∧ xsOf args.toList = some xs := by
        cases ho : o.op
        case call cl =>
          obtain ⟨callee, args, argTypes⟩ := cl
          cases callee with
          | invoke r m => simp only [cOp0, ho] at h; (repeat' split at h) <;> cases h
          | value q =>
            cases q with
            | func f' =>
              simp only [cOp0, ho] at h
              split at h
              · rename_i xs' hxs
                unfold callOp at h
                (repeat' split at h) <;> first | (cases h; done) | (cases h; exact ⟨_, _, rfl, hxs⟩)
              · cases h
            | tmp t => simp only [cOp0, ho] at h; (repeat' split at h) <;> cases h
            | const v => simp only [cOp0, ho] at h; (repeat' split at h) <;> cases h
            | global g => simp only [cOp0, ho] at h; (repeat' split at h) <;> cases h
          | builtin bi =>
            cases bi <;> simp only [cOp0, ho] at h <;> first | (cases h; done) | ((repeat' split at h) <;> cases h)
        case makeFunc fn f1 f2 => cases fn <;> simp only [cOp0, ho] at h <;> (repeat' split at h) <;> cases h
        case slice t y lo hi mx => cases mx <;> simp only [cOp0, ho] at h <;> (repeat' split at h) <;> cases h
        case makeMap t r => simp only [cOp0, ho] at h; (repeat' split at h) <;> cases h
        case next y isS => cases isS <;> simp only [cOp0, ho] at h <;> (repeat' split at h) <;> cases h
        case typeAssert y xt t ok => cases ok <;> simp only [cOp0, ho] at h <;> (repeat' split at h) <;> cases h
        case binOp op t y z yt =>
          simp only [cOp0, ho] at h
          split at h
          · unfold eqOp at h
            (repeat' split at h) <;> cases h
          · cases h
        case convert s d y =>
          simp only [cOp0, ho] at h
          unfold convOp at h
          (repeat' split at h) <;> cases h
        all_goals (simp only [cOp0, ho] at h; (repeat' split at h) <;> cases h)
      obtain ⟨args, ats, ho, hxs⟩ := key
      have hl := xsOf_ok hxs ht
      obtain ⟨⟨fn, h1, h2, h3⟩, hcl⟩ := hpan f _ σ x σ' hx B w0 j w _ hr hl
      have e : (args.toList.map a.eval).toArray = args.map a.eval := by rw [← Array.toList_map, Array.toArray_toList]
      rw [e] at hcl
      unfold Oper.wp
      have hrun : (execOp a.eval o).run P w = .ok (.enter f (args.map a.eval)) w := by
        simp [execOp, ho, resolve, Act.eval, Deferred.ofValue, invoke, run_callFunc h1 h2 h3]
      rw [hrun, Oper.upon_enter]
      refine hcl.mono fun e w' ⟨j', t, y, u, hxe, he, hj, hrv, hrel⟩ => ?_
      subst he
      exact hq j' a w' t y u hxe hj (ht.mono hj) hrel hn rfl hrv
    · rename_i y
      split at hx <;> cases hx
      rename_i t v hv
      have key : ∃ z, o.op = .panic z ∧ xOf z = some y := by
        cases ho : o.op
        case panic z =>
          simp only [cOp0, ho] at h
          split at h <;> cases h
          exact ⟨z, rfl, by assumption⟩
        case call cl =>
          obtain ⟨callee, args, argTypes⟩ := cl
          cases callee with
          | invoke r m => simp only [cOp0, ho] at h; (repeat' split at h) <;> cases h
          | value q =>
            cases q with
            | func f' =>
              simp only [cOp0, ho] at h
              split at h
              · unfold callOp at h
                (repeat' split at h) <;> cases h
              · cases h
            | tmp t => simp only [cOp0, ho] at h; (repeat' split at h) <;> cases h
            | const v => simp only [cOp0, ho] at h; (repeat' split at h) <;> cases h
            | global g => simp only [cOp0, ho] at h; (repeat' split at h) <;> cases h
          | builtin bi =>
            cases bi <;> simp only [cOp0, ho] at h <;> first | (cases h; done) | ((repeat' split at h) <;> cases h)
        case makeFunc fn f1 f2 => cases fn <;> simp only [cOp0, ho] at h <;> (repeat' split at h) <;> cases h
        case slice t y lo hi mx => cases mx <;> simp only [cOp0, ho] at h <;> (repeat' split at h) <;> cases h
        case makeMap t r => simp only [cOp0, ho] at h; (repeat' split at h) <;> cases h
        case next y isS => cases isS <;> simp only [cOp0, ho] at h <;> (repeat' split at h) <;> cases h
        case typeAssert y xt t ok => cases ok <;> simp only [cOp0, ho] at h <;> (repeat' split at h) <;> cases h
        case binOp op t y z yt =>
          simp only [cOp0, ho] at h
          split at h
          · unfold eqOp at h
            (repeat' split at h) <;> cases h
          · cases h
        case convert s d y =>
          simp only [cOp0, ho] at h
          unfold convOp at h
          (repeat' split at h) <;> cases h
        all_goals (simp only [cOp0, ho] at h; (repeat' split at h) <;> cases h)
      obtain ⟨z, ho, hz⟩ := key
      have h1 := xOf_ok hz ht
      rw [hv] at h1
      obtain ⟨u, e1, hu⟩ := h1
      unfold Oper.wp
      have hrun : (execOp a.eval o).run P w = .halt (.panic (.iface t u)) w := by
        simp [execOp, ho, e1, Instr.panic, goPanic]
      rw [hrun, Oper.upon_panic]
      exact hq j a w t v u rfl (J.le.refl _) ht hr hn rfl hu
    · cases hx
theorem runOpsP_ok (hμ : Marks μ) {call pan : CallA} (hcall : CallsOK P μ call) (hpan : PansOK P μ pan) {nt : Nat} {ops : Array Oper} {Q : Exit → Act → World → Prop} :
    ∀ (l : List Oper) (k : Nat) (ol : List O) (τ τ' : T) (σ σ' : Mem) (x : AV) (j : J) (a : Act) (w : World), (∀ i : Nat, l[i]? = ops[k + i]?) → cOpers P nt ops l = some ol → runOpsP call pan ol τ σ = some (x, τ', σ') →
      RT μ j τ a → Rel μ B w0 j σ w → a.tmps.size = nt → AfterP μ B w0 j nt a x τ' σ' Q → wpOps P ops Q (List.range' k l.length) a w
  | [], k, ol, τ, τ', σ, σ', x, j, a, w, _, hc, hx, ht, hr, hn, hq => by
    cases hc
    cases hx
  | o :: r, k, ol, τ, τ', σ, σ', x, j, a, w, hl, hc, hx, ht, hr, hn, hq => by
    simp only [cOpers] at hc
    split at hc
    · rename_i x' ol' hx' hol'
      cases hc
      obtain ⟨h1, h2, h3, h4, _⟩ := cOper_ok hx'
      have ho : ops[k]? = some o := by have := hl 0; simpa using this.symm
      have hl' : ∀ i : Nat, r[i]? = ops[k + 1 + i]? := fun i => by
        have := hl (i + 1)
        simpa [Nat.add_assoc, Nat.add_comm 1 i] using this
      simp only [List.length_cons, List.range'_succ, wpOps, ho]
      simp only [runOpsP] at hx
      split at hx
      · rename_i hw
        rw [if_pos (guard_ok h2 rfl ht hw)]
        split at hx
        · rename_i v s hv
          refine .inl (exec_ok hμ hr ht hcall h1 hv _ _ fun j' u w' hj hu hr' => ?_)
          refine runOpsP_ok hμ hcall hpan r (k + 1) ol' _ τ' s σ' x j' (a.put o.dst u) w' hl' hol' hx (by rw [h3]; exact (ht.mono hj).put h4 hn hu) hr' (by rw [put_size]; exact hn) ?_
          intro j2 a2 w2 t y u2 hxe hj2 ht2 hr2 hn2 hd2 hu2
          exact hq j2 a2 w2 t y u2 hxe (hj.trans hj2) ht2 hr2 hn2 (by rw [hd2, put_defers]) hu2
        · split at hx <;> cases hx
          rename_i hp
          exact .inl (opP_ok hcall hpan h1 hp ht hr hn hq)
      · rename_i hw
        rw [if_neg (by rw [guard_ok h2 rfl ht hw]; simp)]
        refine runOpsP_ok hμ hcall hpan r (k + 1) ol' _ τ' σ σ' x j (a.put o.dst undef) w hl' hol' hx (by rw [h3]; exact ht.put h4 hn ⟨#[], rfl, rfl⟩) hr (by rw [put_size]; exact hn) ?_
        intro j2 a2 w2 t y u2 hxe hj2 ht2 hr2 hn2 hd2 hu2
        exact hq j2 a2 w2 t y u2 hxe hj2 ht2 hr2 hn2 (by rw [hd2, put_defers]) hu2
      · cases hx
    · cases hc
theorem iterP_ok {body : T → Mem → St} {bodyP : T → Mem → StP} {code : Code} {nt : Nat} {x : AV} {τ' : T} {σ' : Mem} {j : J} {a : Act} {w : World} {Q : Exit → Act → World → Prop} {τ : T} {σ : Mem} (n : Nat)
    (hbody : ∀ (τ : T) (σ : Mem) (x : E) (τ' : T) (σ' : Mem) (j : J) (a : Act) (w : World) (Q : Exit → Act → World → Prop), body τ σ = some (x, τ', σ') → RT μ j τ a → Rel μ B w0 j σ w → a.tmps.size = nt → After μ B w0 j nt a τ' σ' (Q x.conc) → code.wp P Q a w)
    (hbodyP : ∀ (τ : T) (σ : Mem) (x : AV) (τ' : T) (σ' : Mem) (j : J) (a : Act) (w : World) (Q : Exit → Act → World → Prop), bodyP τ σ = some (x, τ', σ') → RT μ j τ a → Rel μ B w0 j σ w → a.tmps.size = nt → AfterP μ B w0 j nt a x τ' σ' Q → code.wp P Q a w)
    (hi : iterP body bodyP n τ σ = some (x, τ', σ')) (ht : RT μ j τ a) (hr : Rel μ B w0 j σ w) (hn : a.tmps.size = nt) (hq : AfterP μ B w0 j nt a x τ' σ' Q) : (Code.loop code).wp P Q a w := by
  refine wp_loop_ghost (fun n a1 w1 => ∃ (τ1 : T) (σ1 : Mem) (j1 : J), iterP body bodyP n τ1 σ1 = some (x, τ', σ') ∧ RT μ j1 τ1 a1 ∧ Rel μ B w0 j1 σ1 w1 ∧ a1.tmps.size = nt ∧ a1.defers = a.defers ∧ j.le j1) n ⟨τ, σ, j, hi, ht, hr, hn, rfl, J.le.refl _⟩ ?_
  intro n1 a1 w1 ⟨τ1, σ1, j1, hi1, ht1, hr1, hn1, hd1, hj1⟩
  cases n1 with
  | zero => simp [iterP] at hi1
  | succ n1 =>
    simp only [iterP] at hi1
    split at hi1
    · rename_i τ2 σ2 hb
      refine hbody τ1 σ1 .nrm τ2 σ2 j1 a1 w1 _ hb ht1 hr1 hn1 ?_
      intro j2 a2 w2 hj2 ht2 hr2 hn2 hd2
      exact ⟨n1, by omega, τ2, σ2, j2, hi1, ht2, hr2, hn2, by rw [hd2, hd1], hj1.trans hj2⟩
    · cases hi1
    · refine hbodyP τ1 σ1 x τ' σ' j1 a1 w1 _ hi1 ht1 hr1 hn1 ?_
      intro j2 a2 w2 t y u hxe hj2 ht2 hr2 hn2 hd2 hu
      exact hq j2 a2 w2 t y u hxe (hj1.trans hj2) ht2 hr2 hn2 (by rw [hd2, hd1]) hu
theorem evKP_ok (hμ : Marks μ) {call pan : CallA} (hcall : CallsOK P μ call) (hpan : PansOK P μ pan) (hmix : P.follows .mixedOrders = true) {nt L : Nat} : ∀ (code : Code) (c : K) (τ : T) (σ : Mem) (x : AV) (τ' : T) (σ' : Mem) (j : J) (a : Act) (w : World) (Q : Exit → Act → World → Prop),
    cCode P nt code = some c → evKP call pan L c τ σ = some (x, τ', σ') → RT μ j τ a → Rel μ B w0 j σ w → a.tmps.size = nt → AfterP μ B w0 j nt a x τ' σ' Q → code.wp P Q a w
  | .skip, c, τ, σ, x, τ', σ', j, a, w, Q, hc, he, ht, hr, hn, hq => by cases hc; cases he
  | .region id ops false, c, τ, σ, x, τ', σ', j, a, w, Q, hc, he, ht, hr, hn, hq => by
    simp only [cCode] at hc
    split at hc <;> first | (cases hc; simp only [evKP] at he; cases he; done) | cases hc
    rename_i l hl
    simp only [evKP] at he
    refine wp_region ?_
    have := runOpsP_ok hμ hcall hpan (ops := ops) (Q := Q) ops.toList 0 l τ τ' σ σ' x j a w (fun i => by simp) hl he ht hr hn hq
    rwa [Array.length_toList, ← List.range_eq_range'] at this
  | .region id ops true, c, τ, σ, x, τ', σ', j, a, w, Q, hc, he, ht, hr, hn, hq => by
    simp only [cCode] at hc
    split at hc
    · cases hc; simp only [evKP] at he; cases he
    · split at hc
      · rename_i k hk
        cases hc
        obtain ⟨l, fa, us, rfl⟩ := cFloat_fr hk
        simp only [evKP] at he; cases he
      · split at hc
        · rename_i k hk
          cases hc
          obtain ⟨l, rfl⟩ := cFloats_fr hk
          simp only [evKP] at he; cases he
        · cases hc; simp only [evKP] at he; cases he
  | .seq p q, c, τ, σ, x, τ', σ', j, a, w, Q, hc, he, ht, hr, hn, hq => by
    simp only [cCode] at hc
    split at hc <;> first | (cases hc; simp only [evKP] at he; cases he; done) | cases hc
    rename_i p' q' hp hq'
    simp only [evKP] at he
    refine wp_seq ?_
    split at he
    · rename_i τ1 σ1 h1
      refine evK_ok hμ hcall hmix p p' τ σ .nrm τ1 σ1 j a w _ hp h1 ht hr hn ?_
      intro j1 a1 w1 hj1 ht1 hr1 hn1 hd1
      refine evKP_ok hμ hcall hpan hmix q q' τ1 σ1 x τ' σ' j1 a1 w1 _ hq' he ht1 hr1 hn1 ?_
      intro j2 a2 w2 t y u hxe hj2 ht2 hr2 hn2 hd2 hu
      exact hq j2 a2 w2 t y u hxe (hj1.trans hj2) ht2 hr2 hn2 (by rw [hd2, hd1]) hu
    · cases he
    · exact evKP_ok hμ hcall hpan hmix p p' τ σ x τ' σ' j a w _ hp he ht hr hn hq
  | .cond v p q, c, τ, σ, x, τ', σ', j, a, w, Q, hc, he, ht, hr, hn, hq => by
    simp only [cCode] at hc
    split at hc <;> first | (cases hc; simp only [evKP] at he; cases he; done) | cases hc
    rename_i v' p' q' hv hp hq'
    have h1 := xOf_ok hv ht
    simp only [evKP] at he
    split at he
    · rename_i hb
      rw [hb] at h1
      exact wp_cond_true h1 (evKP_ok hμ hcall hpan hmix p p' τ σ x τ' σ' j a w Q hp he ht hr hn hq)
    · rename_i hb
      rw [hb] at h1
      exact wp_cond_false h1 (evKP_ok hμ hcall hpan hmix q q' τ σ x τ' σ' j a w Q hq' he ht hr hn hq)
    · cases he
  | .block id p, c, τ, σ, x, τ', σ', j, a, w, Q, hc, he, ht, hr, hn, hq => by
    simp only [cCode] at hc
    split at hc <;> first | (cases hc; simp only [evKP] at he; cases he; done) | cases hc
    rename_i p' hp
    simp only [evKP] at he
    exact wp_block (evKP_ok hμ hcall hpan hmix p p' τ σ x τ' σ' j a w _ hp he ht hr hn hq)
  | .loop p, c, τ, σ, x, τ', σ', j, a, w, Q, hc, he, ht, hr, hn, hq => by
    simp only [cCode] at hc
    split at hc <;> first | (cases hc; simp only [evKP] at he; cases he; done) | cases hc
    rename_i p' hp
    simp only [evKP] at he
    exact iterP_ok L (fun τ σ x τ' σ' j a w Q h1 h2 h3 h4 h5 => evK_ok hμ hcall hmix p p' τ σ x τ' σ' j a w Q hp h1 h2 h3 h4 h5)
      (fun τ σ x τ' σ' j a w Q h1 h2 h3 h4 h5 => evKP_ok hμ hcall hpan hmix p p' τ σ x τ' σ' j a w Q hp h1 h2 h3 h4 h5) he ht hr hn hq
  | .exit id, c, τ, σ, x, τ', σ', j, a, w, Q, hc, he, ht, hr, hn, hq => by cases hc; cases he
  | .ret, c, τ, σ, x, τ', σ', j, a, w, Q, hc, he, ht, hr, hn, hq => by cases hc; cases he
  | .scope p, c, τ, σ, x, τ', σ', j, a, w, Q, hc, he, ht, hr, hn, hq => by
    simp only [cCode] at hc
    exact wp_scope_straight (evKP_ok hμ hcall hpan hmix p c τ σ x τ' σ' j a w _ hc he ht hr hn hq)
  | .label l, c, τ, σ, x, τ', σ', j, a, w, Q, hc, he, ht, hr, hn, hq => by cases hc; cases he
  | .rangeFunc _ _ _ _, c, _, _, _, _, _, _, _, _, _, hc, he, _, _, _, _ => by (simp only [cCode, Option.some.injEq] at hc; subst hc; cases he)
  | .goto _, c, _, _, _, _, _, _, _, _, _, hc, he, _, _, _, _ => by (simp only [cCode, Option.some.injEq] at hc; subst hc; cases he)
  | .refuse _, c, _, _, _, _, _, _, _, _, _, hc, he, _, _, _, _ => by (simp only [cCode, Option.some.injEq] at hc; subst hc; cases he)
end
end Go.Proofs.YtpflpjkbiopmpaaGreatDoor.Ev
