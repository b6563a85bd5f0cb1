/-
  Every operation of the small language is the model's; regions in the text's order. No program is named here.
-/
import Derived.Test.YtpflpjkbiopmpaaGreatDoorEvF
set_option linter.unusedVariables false
set_option linter.unusedSimpArgs false
set_option linter.unnecessarySimpa false
set_option linter.all false
namespace Go.Proofs.YtpflpjkbiopmpaaGreatDoor.Ev
open Go Go.RowKit

section
variable {P : Program} {μ : Mu} {B : Nat → Prop} {w0 w : World} {j : J} {σ σ' : Mem} {τ : T} {a : Act}
theorem exec_ok0 (hμ : Marks μ) (hr : Rel μ B w0 j σ w) (ht : RT μ j τ a) {call : CallA} (hcall : CallsOK P μ call) {o : Oper} {c : C} {x : AV} (hc : cOp0 P o = some c) (hx : execA call c τ σ = some (x, σ')) : Acts P μ B w0 j o a w x σ' := by
  have hc0 := hc
  cases ho : o.op
  case alloc e =>
    simp only [cOp0, ho] at hc
    split at hc <;> cases hc
    exact acts_alloc hr ho (by assumption) hx
  case box e y =>
    simp only [cOp0, ho] at hc
    split at hc <;> cases hc
    exact acts_box hμ hr ht ho (by assumption) hx
  case buildSlice t len ps =>
    simp only [cOp0, ho] at hc
    split at hc
    · rename_i e hu
      split at hc
      · rename_i n z hn hz
        split at hc
        · rename_i hl
          simp only [Bool.and_eq_true, Nat.ble_eq, Nat.blt_eq] at hl
          split at hc <;> cases hc
          rename_i ps' hps
          exact acts_bs hμ hr ht ho hu hn hz hl.1.2 hl.2 hl.1.1 hps (by
            have : len * 1 ≤ len * n := Nat.mul_le_mul_left _ hl.2
            unfold maxLen; omega) hx
        · cases hc
      · cases hc
    · cases hc
  case store t p y =>
    simp only [cOp0, ho] at hc
    split at hc <;> cases hc
    exact acts_store hμ hr ht ho (by assumption) (by assumption) (by assumption) hx
  case convert src dst y =>
    simp only [cOp0, ho] at hc
    split at hc
    · cases hc; exact acts_pure hμ hr ht hc0 hx
    · cases hc; exact acts_pure hμ hr ht hc0 hx
    · cases hc; exact acts_pure hμ hr ht hc0 hx
    · rename_i e y' hs hd hy
      split at hc <;> cases hc
      exact acts_sb hr ht ho hs hd (by assumption) hy hx
    · rename_i e1 e y' hs hd hy
      split at hc <;> first | (cases hc; done) | skip
      rename_i hue
      split at hc <;> cases hc
      rename_i heq
      exact acts_sm hr ht ho hs hd hue (by simpa using heq) hy hx
    · split at hc <;> cases hc
      exact acts_pure hμ hr ht hc0 hx
    · unfold convOp at hc
      split at hc <;> first | (cases hc; done) | skip
      split at hc <;> cases hc
      exact acts_pure hμ hr ht hc0 hx
    · unfold convOp at hc
      split at hc <;> first | (cases hc; done) | skip
      split at hc <;> cases hc
      exact acts_pure hμ hr ht hc0 hx
    · cases hc
  case call cl =>
    obtain ⟨callee, args, argTypes⟩ := cl
    cases callee with
    | invoke r m =>
      simp only [cOp0, ho] at hc
      split at hc <;> first | (cases hc; done) | skip
      rename_i x' xs' hp hxs
      cases hc
      exact acts_ik hr ht hcall ho hp hxs hx
    | value f =>
      cases f with
      | func f =>
        simp only [cOp0, ho] at hc
        split at hc
        · rename_i xs hxs
          unfold callOp at hc
          split at hc
          · split at hc <;> cases hc
            exact acts_pure hμ hr ht hc0 hx
          · split at hc
            · split at hc <;> cases hc
              exact acts_pure hμ hr ht hc0 hx
            · split at hc
              · split at hc <;> cases hc
                exact acts_pure hμ hr ht hc0 hx
              · split at hc
                · rename_i hmz
                  split at hc <;> cases hc
                  rename_i hrs
                  exact acts_mz hr ht ho hmz hrs hxs hx
                · split at hc
                  · cases hc
                    exact acts_cp hr ht hcall ho hxs hx
                  · split at hc <;> cases hc
                    · exact acts_cq hr ht hcall ho hxs hx
                    · exact acts_call hr ht hcall ho hxs hx
        · cases hc
      | tmp t =>
        simp only [cOp0, ho] at hc
        split at hc <;> cases hc
        exact acts_cv hr ht hcall ho (by assumption) (by assumption) hx
      | const v =>
        simp only [cOp0, ho] at hc
        split at hc <;> cases hc
        exact acts_cv hr ht hcall ho (by assumption) (by assumption) hx
      | global g =>
        simp only [cOp0, ho] at hc
        split at hc <;> cases hc
        exact acts_cv hr ht hcall ho (by assumption) (by assumption) hx
    | builtin bi =>
      cases bi <;> simp only [cOp0, ho] at hc <;> first | (cases hc; done) | skip
      case append =>
        split at hc
        · rename_i t t' p y hat har
          have hat' : argTypes = #[t, t'] := by rw [← Array.toList_inj]; exact hat
          have har' : args = #[p, y] := by rw [← Array.toList_inj]; exact har
          subst hat'; subst har'
          split at hc
          · rename_i htt
            obtain rfl : t = t' := by simpa using htt
            split at hc
            · rename_i e hu
              split at hc
              · rename_i i z p' y' hi hz hp hy
                split at hc <;> cases hc
                rename_i hs
                simp only [Bool.and_eq_true, Nat.blt_eq] at hs
                exact acts_ap hμ hr ht ho hu hi hz hs.1 hs.2 hp hy hx
              · cases hc
            · cases hc
          · split at hc <;> first | (cases hc; done) | skip
            · rename_i e p' y' hu hu' hp hy
              split at hc <;> cases hc
              rename_i hb
              exact acts_as hr ht ho hu hu' hb hp hy hx
            · split at hc <;> cases hc
              exact acts_pure hμ hr ht hc0 hx
        · cases hc
      case unsafeString =>
        split at hc <;> first | (cases hc; done) | skip
        rename_i t t' p y hat har
        have hat' : argTypes = #[t, t'] := by rw [← Array.toList_inj]; exact hat
        have har' : args = #[p, y] := by rw [← Array.toList_inj]; exact har
        subst hat'; subst har'
        split at hc <;> first | (cases hc; done) | skip
        rename_i e p' y' hu hp hy
        split at hc <;> cases hc
        rename_i hs
        exact acts_us hr ht ho hu hs hp hy hx
      all_goals
        (repeat' split at hc) <;> first | (cases hc; done) | (cases hc; exact acts_pure hμ hr ht hc0 hx)
  case makeFunc fn f1 f2 =>
    cases fn <;> simp only [cOp0, ho] at hc <;> (repeat' split at hc) <;> first | (cases hc; done) | (cases hc; exact acts_pure hμ hr ht hc0 hx)
  case slice t y lo hi mx =>
    cases mx <;> simp only [cOp0, ho] at hc <;> (repeat' split at hc) <;> first | (cases hc; done) | (cases hc; exact acts_pure hμ hr ht hc0 hx)
  case binOp op t y z yt =>
    simp only [cOp0, ho] at hc
    split at hc
    · rename_i y' z' hy hz
      have : ∀ g, eqOp P g op t y' z' = some c → Acts P μ B w0 j o a w x σ' := by
        intro g hc
        unfold eqOp at hc
        (repeat' split at hc) <;> first | (cases hc; done) | (cases hc; exact acts_pure hμ hr ht hc0 hx)
      split at hc
      · exact this false hc
      · exact this true hc
      · cases hc; exact acts_pure hμ hr ht hc0 hx
    · cases hc
  case typeAssert y xt t ok =>
    cases ok <;> simp only [cOp0, ho] at hc
    · split at hc <;> cases hc
      exact acts_pure hμ hr ht hc0 hx
    · split at hc <;> cases hc
      exact acts_pure hμ hr ht hc0 hx
  case makeSlice t y z =>
    simp only [cOp0, ho] at hc
    split at hc <;> first | (cases hc; done) | skip
    rename_i e hu
    split at hc <;> first | (cases hc; done) | skip
    rename_i i z' p' y' hi hz hp hy
    split at hc <;> cases hc
    rename_i hsz
    simp only [Bool.and_eq_true, Nat.blt_eq] at hsz
    exact acts_mk hr ht ho hu hi hz hsz.1 hsz.2 hp hy hx
  case makeMap t r =>
    simp only [cOp0, ho] at hc
    split at hc <;> first | (cases hc; done) | skip
    rename_i hh
    split at hc <;> cases hc
    rename_i hu
    exact acts_mm hr ho hh hu hx
  case mapUpdate t y z v =>
    simp only [cOp0, ho] at hc
    split at hc <;> first | (cases hc; done) | skip
    rename_i kt e hu
    split at hc <;> first | (cases hc; done) | skip
    rename_i y' z' v' hk hy hz hv
    cases hc
    exact acts_mu hμ hr ht ho hu hk hy hz hv hx
  case range t y =>
    simp only [cOp0, ho] at hc
    split at hc <;> cases hc
    exact acts_rg hr ht ho (by assumption) (by assumption) hx
  case next y isS =>
    cases isS <;> simp only [cOp0, ho] at hc
    · cases hc
    · split at hc <;> cases hc
      exact acts_nx hr ht ho (by assumption) hx
  all_goals
    simp only [cOp0, ho] at hc <;> (repeat' split at hc) <;> first | (cases hc; done) | (cases hc; exact acts_pure hμ hr ht hc0 hx)

theorem exec_ok (hμ : Marks μ) (hr : Rel μ B w0 j σ w) (ht : RT μ j τ a) {call : CallA} (hcall : CallsOK P μ call) {o : Oper} {c : C} {x : AV} (hc : cOp P o = c) (hx : execA call c τ σ = some (x, σ')) : Acts P μ B w0 j o a w x σ' := by
  unfold cOp at hc
  cases h : cOp0 P o with
  | none => rw [h] at hc; subst hc; cases hx
  | some c' => rw [h] at hc; subst hc; exact exec_ok0 hμ hr ht hcall h hx

/-! ### Regions in the text's order -/
theorem guard_ok {ops : Array Oper} {g : Option (Nat × Bool)} {g' : Option (Nat × Bool)} (h : guardA ops g = some g') {o : Oper} (ho : o.guard = g) (ht : RT μ j τ a) {b : Bool} (hw : wantA g' τ = some b) :
    Region.wanted o (yielded ops a.tmps) = b := by
  subst ho
  unfold Region.wanted
  unfold guardA at h
  split at h
  · rename_i hg
    cases h
    rw [hg]
    simpa [wantA] using hw
  · rename_i jj want hg
    rw [hg]
    split at h
    · rename_i o' ho'
      split at h <;> cases h
      rename_i d hd
      have h1 := ht d
      simp only [wantA] at hw
      simp only [yielded, ho', hd, Option.bind_some]
      unfold wantV at hw
      split at hw
      · rename_i b' hb'
        cases hw
        rw [hb'] at h1
        have h1' : a.tmps.getD d undef = .bool b' := h1
        have h2 : a.tmps[d]? = some (.bool b') := by
          rcases Nat.lt_or_ge d a.tmps.size with hlt | hge
          · rw [Array.getElem?_eq_getElem hlt]
            simp only [Array.getD_eq_getD_getElem?, Array.getElem?_eq_getElem hlt, Option.getD_some] at h1'
            rw [h1']
          · simp only [Array.getD_eq_getD_getElem?, Array.getElem?_eq_none hge, Option.getD_none, undef] at h1'
            cases h1'
        rw [h2]
        rw [Bool.eq_iff_iff]
        simp
      · rename_i hb'
        cases hw
        rw [hb'] at h1
        obtain ⟨vs, e1, e2⟩ := h1
        have e3 : vs = #[] := by rw [← Array.toList_inj]; exact e2
        subst e3
        have h2 : a.tmps[d]? = some (.tuple #[]) ∨ a.tmps[d]? = none := by
          rcases Nat.lt_or_ge d a.tmps.size with hlt | hge
          · left
            rw [Array.getElem?_eq_getElem hlt]
            simp only [Array.getD_eq_getD_getElem?, Array.getElem?_eq_getElem hlt, Option.getD_some] at e1
            rw [e1]
          · exact .inr (Array.getElem?_eq_none hge)
        rcases h2 with h2 | h2 <;> rw [h2] <;> rfl
      · cases hw
    · cases h
theorem cOper_ok {nt : Nat} {ops : Array Oper} {o : Oper} {x : O} (h : cOper P nt ops o = some x) : cOp P o = x.c ∧ guardA ops o.guard = some x.g ∧ x.d = o.dst ∧ dstOk nt o.dst = true ∧ x.rd = none := by
  unfold cOper at h
  split at h
  · split at h <;> cases h
    exact ⟨rfl, by assumption, rfl, by assumption, rfl⟩
  · cases h
theorem cOpers_nth {nt : Nat} {ops : Array Oper} : ∀ {l : List Oper} {ol : List O}, cOpers P nt ops l = some ol → ol.length = l.length ∧ ∀ (i : Nat) (o : Oper), l[i]? = some o → ∃ x : O, ol[i]? = some x ∧ cOper P nt ops o = some x
  | [], ol, h => by cases h; exact ⟨rfl, fun i o h => by simp at h⟩
  | o :: r, ol, h => by
    simp only [cOpers] at h
    split at h
    · rename_i x l hx hl
      cases h
      obtain ⟨h1, h2⟩ := cOpers_nth hl
      refine ⟨by simp [h1], fun i o' ho' => ?_⟩
      cases i with
      | zero => simp at ho'; subst ho'; exact ⟨x, rfl, hx⟩
      | succ i => simpa using h2 i o' (by simpa using ho')
    · cases h
/-- what stands behind a piece of code is asked in every state that it may leave. -/
def After (μ : Mu) (B : Nat → Prop) (w0 : World) (j : J) (nt : Nat) (a : Act) (τ' : T) (σ' : Mem) (R : Act → World → Prop) : Prop :=
  ∀ (j' : J) (a' : Act) (w' : World), j.le j' → RT μ j' τ' a' → Rel μ B w0 j' σ' w' → a'.tmps.size = nt → a'.defers = a.defers → R a' w'
theorem runOps_ok (hμ : Marks μ) {call : CallA} (hcall : CallsOK P μ call) {nt : Nat} {ops : Array Oper} {Q : Exit → Act → World → Prop} :
    ∀ (l : List Oper) (k : Nat) (ol : List O) (τ τ' : T) (σ σ' : Mem) (j : J) (a : Act) (w : World), (∀ i : Nat, l[i]? = ops[k + i]?) → cOpers P nt ops l = some ol → runOps call ol τ σ = some (τ', σ') →
      RT μ j τ a → Rel μ B w0 j σ w → a.tmps.size = nt → After μ B w0 j nt a τ' σ' (Q .normal) → wpOps P ops Q (List.range' k l.length) a w
  | [], k, ol, τ, τ', σ, σ', j, a, w, _, hc, hx, ht, hr, hn, hq => by
    cases hc
    cases hx
    exact hq j a w (J.le.refl _) ht hr hn rfl
  | o :: r, k, ol, τ, τ', σ, σ', j, a, w, hl, hc, hx, ht, hr, hn, hq => by
    simp only [cOpers] at hc
    split at hc
    · rename_i x ol' hx' hol'
      cases hc
      obtain ⟨h1, h2, h3, h4, _⟩ := cOper_ok hx'
      have ho : ops[k]? = some o := by have := hl 0; simpa using this.symm
      have hl' : ∀ i : Nat, r[i]? = ops[k + 1 + i]? := fun i => by
        have := hl (i + 1)
        simpa [Nat.add_assoc, Nat.add_comm 1 i] using this
      simp only [List.length_cons, List.range'_succ, wpOps, ho]
      simp only [runOps] at hx
      split at hx
      · rename_i hw
        rw [if_pos (guard_ok h2 rfl ht hw)]
        split at hx
        · rename_i v s hv
          refine .inl (exec_ok hμ hr ht hcall h1 hv _ _ fun j' u w' hj hu hr' => ?_)
          refine runOps_ok hμ hcall r (k + 1) ol' _ τ' s σ' j' (a.put o.dst u) w' hl' hol' hx (by rw [h3]; exact (ht.mono hj).put h4 hn hu) hr' (by rw [put_size]; exact hn) ?_
          intro j2 a2 w2 hj2 ht2 hr2 hn2 hd2
          exact hq j2 a2 w2 (hj.trans hj2) ht2 hr2 hn2 (by rw [hd2, put_defers])
        · cases hx
      · rename_i hw
        rw [if_neg (by rw [guard_ok h2 rfl ht hw]; simp)]
        refine runOps_ok hμ hcall r (k + 1) ol' _ τ' σ σ' j (a.put o.dst undef) w hl' hol' hx (by rw [h3]; exact ht.put h4 hn ⟨#[], rfl, rfl⟩) hr (by rw [put_size]; exact hn) ?_
        intro j2 a2 w2 hj2 ht2 hr2 hn2 hd2
        exact hq j2 a2 w2 hj2 ht2 hr2 hn2 (by rw [hd2, put_defers])
      · cases hx
    · cases hc
end
end Go.Proofs.YtpflpjkbiopmpaaGreatDoor.Ev
