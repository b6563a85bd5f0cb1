/-
  Regions that draw their order, with one operation that may come early: of an allocation, and of a write apart from those that it may meet. No program is named here.
-/
import Derived.Test.YtpflpjkbiopmpaaGreatDoorEvL
set_option linter.unusedVariables false
set_option linter.unusedSimpArgs false
set_option linter.unnecessarySimpa false
set_option linter.all false
namespace Go.Proofs.YtpflpjkbiopmpaaGreatDoor.Ev
open Go Go.RowKit

theorem Tr.get_set_ne {α : Type} (x : Option α) : ∀ (f : Nat) (t : Tr α) (k m : Nat), m ≠ k → (Tr.set f t k x).get m = t.get m := by
  intro f
  induction f with
  | zero => intro t k m _; rfl
  | succ f ih =>
    have main : ∀ (v : Option α) (l r : Tr α) (k m : Nat), m ≠ k → (Tr.set (f + 1) (.n v l r) k x).get m = (Tr.n v l r).get m := by
      intro v l r k m h
      cases k with
      | zero =>
        rw [Tr.set_zero]
        cases m with
        | zero => exact absurd rfl h
        | succ m => rw [Tr.get_succ, Tr.get_succ]
      | succ k =>
        rw [Tr.set_succ]
        cases m with
        | zero => split <;> rfl
        | succ m =>
          by_cases p : k % 2 = 0
          · rw [if_pos p, Tr.get_succ, Tr.get_succ]
            by_cases q : m % 2 = 0
            · rw [if_pos q, if_pos q, ih _ _ _ (by omega)]
            · rw [if_neg q, if_neg q]
          · rw [if_neg p, Tr.get_succ, Tr.get_succ]
            by_cases q : m % 2 = 0
            · rw [if_pos q, if_pos q]
            · rw [if_neg q, if_neg q, ih _ _ _ (by omega)]
    intro t k m h
    cases t with
    | e =>
      rw [Tr.set_e, main _ _ _ _ _ h]
      cases m with
      | zero => rfl
      | succ m => rw [Tr.get_succ, Tr.get_e, Tr.get_e]; simp
    | n v l r => exact main v l r k m h

section
variable {P : Program} {μ : Mu} {B : Nat → Prop} {w0 w : World} {j : J} {σ σ' : Mem} {τ τ' : T} {a : Act}
theorem Rel.rebase (h : Rel μ B w0 j σ w) {B' : Nat → Prop} (hs : ∀ k, B k → B' k) (hb : ∀ k, B' k → k < w.heap.size) (hf : ∀ (b : Nat) (blk : ABlk) (g : G), σ.t.get b = some blk → j b = some g → ¬ B' g.c) (hi : ∀ (b : Nat) (i : It) (g : G), σ.it.get b = some i → j b = some g → ¬ B' g.c) : Rel μ B' w j σ w :=
  ⟨Keep.refl _ _, hb, h.pos, h.lid, fun b blk hg => by
    obtain ⟨g, cs, fz, h1, h2, r⟩ := h.get b blk hg
    exact ⟨g, cs, fz, h1, hf b blk g hg h1, r⟩, h.inj, h.dom, fun b i hg => by
    obtain ⟨g, o, h1, h2, r⟩ := h.iter b i hg
    exact ⟨g, o, h1, hi b _ g hg h1, r⟩, h.itin, fun g o hg => ⟨hs g (h.held g o hg).1, h.heldW g o hg⟩⟩
theorem Rel.unbase {B' : Nat → Prop} {w1 : World} (h : Rel μ B' w1 j σ w) (hs : ∀ k, B k → B' k) (hk : Keep B w0 w1) (hh : ∀ g o, μ.held g o → B g ∧ w0.heap[g]? = some o) : Rel μ B w0 j σ w :=
  ⟨hk.trans (h.below.mono hs), fun k hk => h.base k (hs k hk), h.pos, h.lid, fun b blk hg => by
    obtain ⟨g, cs, fz, h1, h2, r⟩ := h.get b blk hg
    exact ⟨g, cs, fz, h1, fun e => h2 (hs _ e), r⟩, h.inj, h.dom, fun b i hg => by
    obtain ⟨g, o, h1, h2, r⟩ := h.iter b i hg
    exact ⟨g, o, h1, fun e => h2 (hs _ e), r⟩, h.itin, hh⟩
theorem Rel.congr (h : Rel μ B w0 j σ w) (ht : ∀ k, σ'.t.get k = σ.t.get k) (hn : σ'.nx = σ.nx) (hi : ∀ k, σ'.it.get k = σ.it.get k) : Rel μ B w0 j σ' w :=
  ⟨h.below, h.base, by rw [hn]; exact h.pos, by rw [hn]; exact h.lid, fun b blk hg => h.get b blk (by rw [← ht]; exact hg), fun b b' blk blk' g g' h1 h2 => h.inj b b' blk blk' g g' (by rw [← ht]; exact h1) (by rw [← ht]; exact h2), fun b g hb => by rw [hn]; exact h.dom b g hb,
   fun b i hg => h.iter b i (by rw [← hi]; exact hg), fun b b' i i' g g' h1 h2 => h.itin b b' i i' g g' (by rw [← hi]; exact h1) (by rw [← hi]; exact h2), h.held⟩

/-! ### An allocation that comes early -/
def pendAl (hμ : Marks μ) (hh0 : ∀ g o, μ.held g o → B g ∧ w0.heap[g]? = some o) {call : CallA} (hcall : CallsOK P μ call) {S : Nat → Mem} {ks : Nat → Nat} {τs : Nat → T} {vs : Nat → AV} {p mp : Nat} {ops : Array Oper} {l0 : List O} {f : O} {e : Nat} {z : List AV} (hfc : f.c = .al e z)
    {of : Oper} (hof : ops[p]? = some of) (hop : of.op = .alloc e) (hz : zeroA P e = some z) (hex : execA call f.c (τs p) (S (ks p)) = some (vs p, S (ks p + 1))) : PendOK P μ B w0 call S ks τs vs p mp ops l0 where
  Pend j1 k u w1 := ∃ (gf : Nat) (w2 : World) (cs : Array Value), u = .pointer (some ⟨gf, 0, none⟩) ∧ ¬ B gf ∧ Keep B w0 w2 ∧ w2.heap[gf]? = some (.cells cs e (0, 0)) ∧ RL μ j1 z cs.toList ∧ Rel μ (fun q => B q ∨ q = gf) w2 j1 (S k) w1
  enter := by
    intro o x0 ho hc j1 a1 w1 τx i hi hr ht hlooks hun K Q hk
    rw [hof] at ho
    cases ho
    obtain ⟨v, hrun, hv⟩ := run_zero (w := w1) (μ := μ) (j := j1) hz
    have hbel : Below w1.heap.size w1 (w1.alloc (.cells v.cells e)) := (Below.refl _ w1).alloc (Nat.le_refl _) _
    have hr2 := hr.later hbel
    have hsz : (w1.alloc (.cells v.cells e)).heap.size = w1.heap.size + 1 := by simp
    refine wp_value (v := .pointer (some ⟨w1.heap.size, 0, none⟩)) (w' := w1.alloc (.cells v.cells e)) ?_ (hk j1 _ _ (J.le.refl _) ⟨w1.heap.size, w1.alloc (.cells v.cells e), v.cells, rfl, hr.fresh, hr2.below, ?_, hv, hr2.rebase (fun _ h => .inl h) ?_ ?_ ?_⟩)
    · simp [execOp, hop, Instr.alloc, hrun, newVar, newRow]
    · rw [show (w1.alloc (.cells v.cells e)).heap = w1.heap.push (.cells v.cells e) from rfl]; simp
    · rintro k (hk | rfl)
      · exact hr2.base k hk
      · omega
    · rintro b blk g hg hj (hB | e)
      · obtain ⟨g', _, _, h1, h2, _⟩ := hr2.get b blk hg
        rw [hj] at h1; cases h1
        exact h2 hB
      · have := (hr.dom b g hj).2.2
        omega
    · rintro b i' g hg hj (hB | e)
      · obtain ⟨g', _, h1, h2, _⟩ := hr2.iter b i' hg
        rw [hj] at h1; cases h1
        exact h2 hB
      · have := (hr.dom b g hj).2.2
        omega
  act := by
    intro i o x0 hi ho h1 hact hmp hc j1 u a1 w1 τx ⟨gf, w2, cs, e1, e2, e3, e4, e5, e6⟩ ht hex2 hlooks K Q hk
    refine exec_ok hμ e6 ht hcall hc hex2 K Q fun j2 v w3 hj2 hv hr3 => hk j2 v w3 hj2 hv ⟨gf, w2, cs, e1, e2, e3, e4, e5.mono hj2 _ _, hr3⟩
  still := by
    intro i o x0 hi ho h1 hact hmp hc j1 u a1 w1 τx k ⟨gf, w2, cs, e1, e2, e3, e4, e5, e6⟩ ht hex2 K Q hk
    refine exec_ok hμ e6 ht hcall hc hex2 K Q fun j2 v w3 hj2 hv hr3 => hk j2 v w3 hj2 hv ⟨gf, w2, cs, e1, e2, e3, e4, e5.mono hj2 _ _, hr3⟩
  leave := by
    intro j1 u w1 ⟨gf, w2, cs, e1, e2, e3, e4, e5, e6⟩
    rw [hfc] at hex
    obtain ⟨b, hone, hnew, hvs⟩ := newA_ok hex
    have hh : w1.heap[gf]? = some (.cells cs e (0, 0)) := by rw [e6.below.block gf (.inr rfl)]; exact e4
    have hlen := RL.len _ _ e5
    obtain ⟨hb, hle, hrel⟩ := (e6.unbase (fun _ h => .inl h) e3 hh0).add hnew cs (0, 0) w1 gf gf rfl rfl rfl (Nat.le_refl _) e2 e2 hh (fun _ _ _ _ => rfl)
      (fun b' blk' g hg hj => by
        obtain ⟨g', _, _, h1, h2, _⟩ := e6.get b' blk' hg
        rw [hj] at h1; cases h1
        exact ⟨fun e => h2 (.inr e), fun e => h2 (.inr e)⟩)
      (fun k o hk hnc => by
        have : k ≠ gf := by rintro rfl; rw [hh] at hk; cases hk; exact hnc _ _ _ rfl
        exact ⟨this, this⟩)
      (fun _ => rfl) (fun o _ => by simp) (by simpa using Nat.le_of_eq hlen.symm) hone
      (fun i x hx => by obtain ⟨v, hv', hr'⟩ := RL.nth _ _ e5 i x hx; exact ⟨v, by simpa using hv', hr'⟩)
    exact ⟨_, hle, hrel, by rw [hvs, e1]; exact ⟨⟨gf, cs.size⟩, by simp [J.upd], rfl⟩⟩

/-! ### A write that comes early -/
theorem eSt_ok {n : Nat} {x y : X} {τ : T} {σ σ' : Mem} {v : AV} (h : eSt n x y τ σ = some (v, σ')) : ∃ (b o : Nat) (blk : ABlk) (cs' : List AV), x.ev τ = .p b o ∧ sizeL n (y.ev τ).cells = true ∧ allOne (y.ev τ).cells = true ∧ σ.t.get b = some blk ∧ putAt o (y.ev τ).cells blk.cells = some cs' ∧
    v = undefA ∧ σ' = ⟨Tr.set 30 σ.t b (some ⟨blk.elem, blk.plain, cs'⟩), σ.nx, σ.it⟩ := by
  unfold eSt at h
  split at h
  · rename_i b o hb
    unfold eStL at h
    split at h
    · rename_i hs
      simp only [Bool.and_eq_true] at hs
      split at h
      · rename_i s hst
        cases h
        unfold Mem.store at hst
        split at hst
        · rename_i blk hblk
          split at hst
          · rename_i cs' hput
            simp only [Option.some.injEq] at hst
            exact ⟨b, o, blk, cs', hb, hs.1, hs.2, hblk, hput, rfl, hst.symm⟩
          · cases hst
        · cases hst
      · cases h
    · cases h
  · cases h
theorem eSt_mk {n : Nat} {x y : X} {τ : T} {σ : Mem} {b o : Nat} {blk : ABlk} {cs' l : List AV} (h1 : x.ev τ = .p b o) (hl : (y.ev τ).cells = l) (h2 : sizeL n l = true) (h3 : allOne l = true) (h4 : σ.t.get b = some blk) (h5 : putAt o l blk.cells = some cs') :
    eSt n x y τ σ = some (undefA, ⟨Tr.set 30 σ.t b (some ⟨blk.elem, blk.plain, cs'⟩), σ.nx, σ.it⟩) := by
  unfold eSt
  rw [h1]
  simp only
  unfold eStL
  rw [hl, h2, h3]
  simp only [Bool.and_self, if_true]
  unfold Mem.store
  rw [h4]
  simp only
  rw [h5]
theorem kept {call : CallA} {S : Nat → Mem} {ks : Nat → Nat} {τs : Nat → T} {vs : Nat → AV} {p mp : Nat} {l0 : List O} {bf : Nat} (hlen : p < l0.length)
    (hst : ∀ (i : Nat) (x : O), l0[i]? = some x → ks (i + 1) = ks i + x.c.acts.toNat ∧ (x.c.acts = true → execA call x.c (τs i) (S (ks i)) = some (vs i, S (ks i + 1)) ∨ S (ks i + 1) = S (ks i)))
    (hsep : ∀ (i : Nat) (x : O), i < p → bit mp i = false → l0[i]? = some x → x.c.acts = true → ∃ (n' ti : Nat) (y' : X) (b' o' : Nat), x.c = .st n' (.t ti) y' ∧ (X.t ti).ev (τs i) = .p b' o' ∧ b' ≠ bf) :
    ∀ (d i : Nat), i + d = p → (∀ (q : Nat) (y : O), i ≤ q → q < p → l0[q]? = some y → y.c.acts = true → bit mp q = false) → (S (ks i)).t.get bf = (S (ks p)).t.get bf := by
  intro d
  induction d with
  | zero => intro i hi _; rw [show i = p by omega]
  | succ d ih =>
    intro i hi hun
    rw [← ih (i + 1) (by omega) fun q y h1 h2 => hun q y (by omega) h2]
    obtain ⟨x, hx⟩ : ∃ x, l0[i]? = some x := ⟨l0[i]'(by omega), List.getElem?_eq_getElem _⟩
    obtain ⟨h1, h2⟩ := hst i x hx
    rw [h1]
    cases ha : x.c.acts with
    | false => rfl
    | true =>
      show (S (ks i)).t.get bf = (S (ks i + 1)).t.get bf
      rcases h2 ha with h2 | h2
      · obtain ⟨n', ti, y', b', o', e1, e2, e3⟩ := hsep i x (by omega) (hun i x (Nat.le_refl _) (by omega) hx ha) hx ha
        rw [e1] at h2
        obtain ⟨b, o, blk, cs', g1, _, _, _, _, _, g7⟩ := eSt_ok h2
        rw [e2] at g1
        cases g1
        rw [g7]
        exact (Tr.get_set_ne _ _ _ _ _ (Ne.symm e3)).symm
      · rw [h2]
def pendSt (hμ : Marks μ) {call : CallA} (hcall : CallsOK P μ call) {S : Nat → Mem} {ks : Nat → Nat} {τs : Nat → T} {vs : Nat → AV} {p mp : Nat} {ops : Array Oper} {l0 : List O} {f : O} {n t : Nat} {y : X} (hfc : f.c = .st n (.t t) y)
    {of : Oper} (hof : ops[p]? = some of) (hcof : cOp P of = f.c) (hlen : p < l0.length)
    (hst : ∀ (i : Nat) (x : O), l0[i]? = some x → ks (i + 1) = ks i + x.c.acts.toNat ∧ (x.c.acts = true → execA call x.c (τs i) (S (ks i)) = some (vs i, S (ks i + 1)) ∨ S (ks i + 1) = S (ks i)))
    {bf off : Nat} {blk : ABlk} {cs' : List AV} (h1 : (X.t t).ev (τs p) = .p bf off) (h2 : sizeL n (y.ev (τs p)).cells = true) (h3 : allOne (y.ev (τs p)).cells = true) (h4 : (S (ks p)).t.get bf = some blk) (h5 : putAt off (y.ev (τs p)).cells blk.cells = some cs')
    (h6 : vs p = undefA) (h7 : S (ks p + 1) = ⟨Tr.set 30 (S (ks p)).t bf (some ⟨blk.elem, blk.plain, cs'⟩), (S (ks p)).nx, (S (ks p)).it⟩)
    (hsep : ∀ (i : Nat) (x : O), i < p → bit mp i = false → l0[i]? = some x → x.c.acts = true → ∃ (n' ti : Nat) (y' : X) (b' o' : Nat), x.c = .st n' (.t ti) y' ∧ (X.t ti).ev (τs i) = .p b' o' ∧ b' ≠ bf)
    (hnr : ∀ (i : Nat) (x : O), i < p → bit mp i = false → l0[i]? = some x → x.c.acts = false → x.c.reads = false) : PendOK P μ B w0 call S ks τs vs p mp ops l0 where
  Pend j1 k u w1 := bf ≤ 1000000000 ∧ RV μ j1 undefA u ∧ Rel μ B w0 j1 ⟨Tr.set 30 (S k).t bf (some ⟨blk.elem, blk.plain, cs'⟩), (S k).nx, (S k).it⟩ w1
  enter := by
    intro o x0 ho hc j1 a1 w1 τx i hi hr ht hlooks hun K Q hk
    rw [hof] at ho
    cases ho
    have hk4 : (S (ks i)).t.get bf = some blk := by rw [kept hlen hst hsep (p - i) i (by omega) hun]; exact h4
    have hcx : x0.c = .st n (.t t) y := by rw [← hc, hcof, hfc]
    have e1 : (X.t t).ev τx = .p bf off := by rw [hlooks t (by simp [O.looks, hcx, C.xs, tms, X.tm])]; exact h1
    have e2 : y.ev τx = y.ev (τs p) := ev_congr fun s hs => hlooks s (by simp [O.looks, hcx, C.xs, tms, hs])
    have hb := hr.lt hk4
    have hlid := hr.lid
    have hx2 : execA call x0.c τx (S (ks i)) = some (undefA, ⟨Tr.set 30 (S (ks i)).t bf (some ⟨blk.elem, blk.plain, cs'⟩), (S (ks i)).nx, (S (ks i)).it⟩) := by
      rw [hcx]
      exact eSt_mk e1 (by rw [e2]) h2 h3 hk4 h5
    exact exec_ok hμ hr ht hcall hc hx2 K Q fun j2 v w2 hj2 hv hr2 => hk j2 v w2 hj2 ⟨by omega, hv, hr2⟩
  act := by
    intro i o x0 hi ho hx hact hmp hc j1 u a1 w1 τx ⟨hbd, hu, hr⟩ ht hex2 hlooks K Q hk
    obtain ⟨n', ti, y', b', o', e1, e2, e3⟩ := hsep i x0 hi hmp hx hact
    rw [e1] at hex2
    obtain ⟨b, o2, blk2, cs2, g1, g2, g3, g4, g5, g6, g7⟩ := eSt_ok hex2
    have : (X.t ti).ev τx = .p b' o' := by rw [hlooks ti (by simp [O.looks, e1, C.xs, tms, X.tm])]; exact e2
    rw [this] at g1
    cases g1
    have g4' : (Tr.set 30 (S (ks i)).t bf (some ⟨blk.elem, blk.plain, cs'⟩)).get b' = some blk2 := by rw [Tr.get_set_ne _ _ _ _ _ e3]; exact g4
    have hb := hr.lt (σ := ⟨Tr.set 30 (S (ks i)).t bf (some ⟨blk.elem, blk.plain, cs'⟩), (S (ks i)).nx, (S (ks i)).it⟩) g4'
    have hlid := hr.lid
    have hx2 : execA call x0.c τx ⟨Tr.set 30 (S (ks i)).t bf (some ⟨blk.elem, blk.plain, cs'⟩), (S (ks i)).nx, (S (ks i)).it⟩ = some (undefA, ⟨Tr.set 30 (Tr.set 30 (S (ks i)).t bf (some ⟨blk.elem, blk.plain, cs'⟩)) b' (some ⟨blk2.elem, blk2.plain, cs2⟩), (S (ks i)).nx, (S (ks i)).it⟩) := by
      rw [e1]
      exact eSt_mk (σ := ⟨Tr.set 30 (S (ks i)).t bf (some ⟨blk.elem, blk.plain, cs'⟩), (S (ks i)).nx, (S (ks i)).it⟩) this rfl g2 g3 g4' g5
    refine exec_ok hμ hr ht hcall hc hx2 K Q fun j2 v w2 hj2 hv hr2 => hk j2 v w2 hj2 (by rw [g6]; exact hv) ⟨hbd, hu.mono hj2, hr2.congr (fun k => ?_) (by rw [g7]) (fun k => by rw [g7])⟩
    rw [g7]
    have hb' : b' ≤ 1000000000 := by have h1 := hb.2; have h2 := hlid; simp only at h1 h2; omega
    simp only
    rw [Tr.get_set30 _ _ _ _ hbd, Tr.get_set30 _ _ _ _ hb', Tr.get_set30 _ _ _ _ hb', Tr.get_set30 _ _ _ _ hbd]
    by_cases c1 : k = bf
    · subst c1
      rw [if_pos rfl, if_neg (Ne.symm e3), if_pos rfl]
    · rw [if_neg c1, if_neg c1]
  still := by
    intro i o x0 hi ho hx hact hmp hc j1 u a1 w1 τx k ⟨hbd, hu, hr⟩ ht hex2 K Q hk
    exact exec_ok hμ hr ht hcall hc ((exec_any hex2 hact (hnr i x0 hi hmp hx hact)).2 _) K Q fun j2 v w2 hj2 hv hr2 => hk j2 v w2 hj2 hv ⟨hbd, hu.mono hj2, hr2⟩
  leave := by
    intro j1 u w1 ⟨hbd, hu, hr⟩
    exact ⟨j1, J.le.refl _, by rw [h7]; exact hr, by rw [h6]; exact hu⟩

/-! ### The checks -/
theorem aheadF_ok (x : O) (m : Nat) : ∀ (l : List O) (k : Nat), aheadF x m l k = true → ∀ (i : Nat) (y : O), l[i]? = some y → pairF y x (bit m (k + i)) = true
  | [], k, _, i, y, h => by simp at h
  | z :: r, k, hk, i, y, h => by
    simp only [aheadF, Bool.and_eq_true] at hk
    cases i with
    | zero => simp at h; subst h; exact hk.1
    | succ i =>
      have := aheadF_ok x m r (k + 1) hk.2 i y (by simpa using h)
      rwa [show k + 1 + i = k + (i + 1) from by omega] at this
theorem allAheadF_ok (p : Nat) : ∀ (l seen : List O) (ms : List Nat) (k : Nat), allAheadF p seen l ms k = true → seen.length = k → l.length = ms.length ∧
    ∀ (i' : Nat) (x : O) (m : Nat), l[i']? = some x → ms[i']? = some m → ∀ (i : Nat) (y : O), i < seen.length + i' → (seen ++ l)[i]? = some y → if k + i' = p then pairF y x (bit m i) = true else pairOk y x (bit m i) = true
  | [], seen, [], k, _, _ => ⟨rfl, fun i' x m h => by simp at h⟩
  | [], seen, m :: ms, k, h, _ => by simp [allAheadF] at h
  | x :: r, seen, [], k, h, _ => by simp [allAheadF] at h
  | x :: r, seen, m :: ms, k, h, hk => by
    simp only [allAheadF, Bool.and_eq_true] at h
    obtain ⟨h1, h2⟩ := allAheadF_ok p r (seen ++ [x]) ms (k + 1) h.2 (by simp [hk])
    refine ⟨by simp [h1], fun i' x' m' hx hm i y hi hy => ?_⟩
    cases i' with
    | zero =>
      simp at hx hm
      subst hx; subst hm
      rw [List.getElem?_append_left (by omega)] at hy
      by_cases e : k = p
      · rw [if_pos (by omega)]
        have h3 := h.1
        rw [if_pos (by simpa using e)] at h3
        have := aheadF_ok x m seen 0 h3 i y hy
        rwa [Nat.zero_add] at this
      · rw [if_neg (by omega)]
        have h3 := h.1
        rw [if_neg (by simpa using e)] at h3
        have := ahead_ok x m seen 0 h3 i y hy
        rwa [Nat.zero_add] at this
    | succ i' =>
      have := h2 i' x' m' (by simpa using hx) (by simpa using hm) i y (by simp; omega) (by rw [List.append_assoc]; exact hy)
      rwa [show k + 1 + i' = k + (i' + 1) from by omega] at this
theorem names_none {d : Option Nat} {y : O} (h : (match d with | some d => !y.names.contains d | none => true) = true) : ∀ e, d = some e → y.names.contains e = false := by
  intro e he
  subst he
  simpa using h
theorem since_ok {l : List O} {i t : Nat} (h : sinceOk l i t = true) (q : Nat) (y : O) (hq : i ≤ q) (hy : l[q]? = some y) : y.d ≠ some t := by
  unfold sinceOk at h
  rw [List.all_eq_true] at h
  have := h q (by rw [List.mem_range]; exact (List.getElem?_eq_some_iff.1 hy).1)
  rw [hy] at this
  simp only [Bool.or_eq_true] at this
  rcases this with this | this
  · have : q < i := by simpa using this
    omega
  · intro e
    rw [e] at this
    simp at this
theorem addr_ok {c : C} {t : Nat} (h : addrOf c = some t) : ∃ n y, c = .st n (.t t) y := by
  unfold addrOf at h
  split at h
  · cases h; exact ⟨_, _, rfl⟩
  · cases h
theorem apart_ok {τ : T} {b : Nat} : ∀ {us : List X}, apartA τ b us = true → ∀ x ∈ us, ∃ b' o', x.ev τ = .p b' o' ∧ b' ≠ b
  | [], _, x, hx => by simp at hx
  | u :: r, h, x, hx => by
    simp only [apartA, Bool.and_eq_true] at h
    rcases List.mem_cons.1 hx with rfl | hx
    · have h1 := h.1
      split at h1
      · rename_i b' o' hb
        exact ⟨b', o', hb, fun e => by subst e; simp at h1⟩
      · cases h1
    · exact apart_ok h.2 x hx
theorem unAddrs_mem {l : List O} {mp : Nat} {i : Nat} {x : O} {t : Nat} (hx : l[i]? = some x) (ha : x.c.acts = true) (hb : bit mp i = false) (hat : addrOf x.c = some t) : ∀ {is : List Nat}, i ∈ is → X.t t ∈ unAddrs l mp is
  | [], h => by simp at h
  | q :: r, h => by
    simp only [unAddrs, List.mem_append]
    rcases List.mem_cons.1 h with rfl | h
    · left
      rw [hx]
      simp [ha, hb, hat]
    · exact .inr (unAddrs_mem hx ha hb hat h)
theorem cFloat_fr {nt : Nat} {ops : Array Oper} {k : K} (h : cFloat P nt ops = some k) : ∃ l fa us, k = .fr l fa us := by
  unfold cFloat at h
  split at h
  · cases h
  · simp only at h
    split at h
    · cases h
    · split at h
      · split at h
        · cases h; exact ⟨_, _, _, rfl⟩
        · cases h
      · cases h
theorem float_ok (hμ : Marks μ) {call : CallA} (hcall : CallsOK P μ call) {nt : Nat} {ops : Array Oper} {l : List O} {fa : Option X} {us : List X} (hc : cFloat P nt ops = some (.fr l fa us)) (hx : runDraw call l τ [σ] 0 [] = some (τ', σ')) (hsa : sepA τ' fa us = true)
    (ht : RT μ j τ a) (hr : Rel μ B w0 j σ w) (hn : a.tmps.size = nt) (hmix : P.follows .mixedOrders = true) {Q : Exit → Act → World → Prop} (hq : After μ B w0 j nt a τ' σ' (Q .normal)) {id : Nat} : (Code.region id ops true).wp P Q a w := by
  unfold cFloat at hc
  split at hc
  · cases hc
  · rename_i l0 hl0
    simp only at hc
    split at hc
    · cases hc
    · rename_i p hp
      split at hc
      · rename_i hchk
        simp only [Bool.and_eq_true, Nat.ble_eq] at hchk
        obtain ⟨⟨⟨hedge, hahead⟩, hnt⟩, hfl⟩ := hchk
        generalize hmsv : masks ops.toList [] = ms at hc hahead hfl
        unfold floatOk at hfl
        cases hf : l0[p]? with
        | none => rw [hf] at hfl; simp at hfl
        | some f =>
          cases hmp : ms[p]? with
          | none => rw [hf, hmp] at hfl; simp at hfl
          | some mp =>
            rw [hf, hmp] at hc hfl
            simp only [Option.some.injEq, K.fr.injEq] at hc
            obtain ⟨hcl, hcfa, hcus⟩ := hc
            simp only [Bool.and_eq_true] at hfl
            obtain ⟨⟨⟨hfg, hkind⟩, hbeh⟩, hun⟩ := hfl
            have hfg' : f.g = none := by simpa using hfg
            obtain ⟨hlenms, hpair0⟩ := allAheadF_ok p l0 [] ms 0 hahead rfl
            obtain ⟨hlen0, hops0⟩ := cOpers_nth hl0
            have hn0 : l0.length = ops.size := by simpa using hlen0
            obtain ⟨hlenl, hwith⟩ := withRd_nth l0 ms l0 ms 0 hlenms
            rw [hcl] at hlenl hwith
            have hpn : p < l0.length := (List.getElem?_eq_some_iff.1 hf).1
            have hpair : ∀ (i i' : Nat) (x x' : O) (m : Nat), i < i' → l0[i]? = some x → l0[i']? = some x' → ms[i']? = some m → bit m i = true ∨ (((x.c.acts && x'.c.acts) = false ∨ i' = p) ∧ (∀ d, x.d = some d → x'.names.contains d = false) ∧ (∀ d, x'.d = some d → x.names.contains d = false)) := by
              intro i i' x x' m hlt h1 h2 h3
              have := hpair0 i' x' m h2 h3 i x (by simpa using hlt) (by simpa using h1)
              cases hb : bit m i with
              | true => exact .inl rfl
              | false =>
                right
                rw [Nat.zero_add] at this
                by_cases e : i' = p
                · rw [if_pos e] at this
                  simp only [pairF, hb, Bool.false_or, Bool.and_eq_true] at this
                  exact ⟨.inr e, names_none this.1, names_none this.2⟩
                · rw [if_neg e] at this
                  simp only [pairOk, hb, Bool.false_or, Bool.and_eq_true, Bool.not_eq_true'] at this
                  exact ⟨.inl this.1.1, names_none this.1.2, names_none this.2⟩
            have hbehind : ∀ (i m : Nat), p < i → ms[i]? = some m → bit m p = true ∧ ∀ (q : Nat) (y : O), q < p → l0[q]? = some y → y.c.acts = true → bit m q = true := by
              intro i m hi hm
              unfold behindOk at hbeh
              rw [List.all_eq_true] at hbeh
              have := hbeh i (by rw [List.mem_range, hlenms]; exact (List.getElem?_eq_some_iff.1 hm).1)
              rw [hm] at this
              simp only [Bool.or_eq_true, Nat.ble_eq, Bool.and_eq_true] at this
              rcases this with this | ⟨h1, h2⟩
              · omega
              · refine ⟨h1, fun q y hq hy hya => ?_⟩
                rw [List.all_eq_true] at h2
                have := h2 q (by rw [List.mem_range]; exact hq)
                simpa [actAt, hy, hya] using this
            have hun1 : ∀ (i : Nat) (o : Oper) (x : O), i < p → bit mp i = false → ops[i]? = some o → l0[i]? = some x → un1 l0 f i o x = true := by
              intro i o x hi hb ho hx0
              unfold unOk at hun
              rw [List.all_eq_true] at hun
              have := hun i (by rw [List.mem_range]; exact hi)
              rw [hb, ho, hx0] at this
              simpa using this
            have hfree : ∀ (i : Nat) (o : Oper), i < p → bit mp i = false → ops[i]? = some o → (∀ cs b, o.op ≠ .select cs b) ∧ ∀ x ∈ o.op.operands, freeOf f.d x = true := by
              intro i o hi hb ho
              obtain ⟨x0, h1, _⟩ := hops0 i o (by simpa using ho)
              have := hun1 i o x0 hi hb ho h1
              simp only [un1, Bool.and_eq_true] at this
              refine ⟨fun cs b e => ?_, fun x hxm => ?_⟩
              · have h2 := this.1.1
                unfold notSel at h2
                rw [e] at h2
                cases h2
              · have h2 := this.1.2
                rw [List.all_eq_true] at h2
                exact h2 x (by simpa using hxm)
            have hgetop : ∀ (i : Nat) (x : O), l0[i]? = some x → ∃ o, ops[i]? = some o ∧ cOper P nt ops o = some x := by
              intro i x hx0
              have hi : i < ops.size := by rw [← hn0]; exact (List.getElem?_eq_some_iff.1 hx0).1
              obtain ⟨x0, h1, h2⟩ := hops0 i ops[i] (by simp [hi])
              rw [hx0] at h1; cases h1
              exact ⟨ops[i], Array.getElem?_eq_getElem hi, h2⟩
            have hact1 : ∀ (i : Nat) (x : O), i < p → bit mp i = false → l0[i]? = some x → x.c.acts = true → x.g = none ∧ (isSt f.c = true → ∃ t, addrOf x.c = some t ∧ sinceOk l0 i t = true) := by
              intro i x hi hb hx0 ha
              obtain ⟨o, ho, _⟩ := hgetop i x hx0
              have := hun1 i o x hi hb ho hx0
              simp only [un1, Bool.and_eq_true, ha, if_true] at this
              refine ⟨by simpa using this.2.1, fun hs => ?_⟩
              have h2 := this.2.2
              rw [hs] at h2
              simp only [Bool.not_true, Bool.false_or] at h2
              split at h2
              · rename_i t hat; exact ⟨t, hat, h2⟩
              · cases h2
            have hguard : ∀ (i : Nat) (x : O), i < p → bit mp i = false → l0[i]? = some x → x.c.acts = true → x.g = none := fun i x hi hb hx0 ha => (hact1 i x hi hb hx0 ha).1
            obtain ⟨of, hof, hcofx⟩ := hgetop p f hf
            have hcof := (cOper_ok hcofx).1
            obtain ⟨hfh, N, _, _, hS0, _, hlex, hσ'⟩ := runDraw_lex l τ [σ] 0 [] τ' σ' rfl hx
            generalize atH hfh N = S at hS0 hlex hσ'
            have hS00 : S 0 = σ := by rw [hS0 0 (Nat.le_refl _)]; rfl
            obtain ⟨τs, vs, ks, e0, k0, en, kn, hstep⟩ := lex_fun hlex
            rw [hlenl, hn0] at en kn
            have hl : ∀ (i : Nat) (x : O), l0[i]? = some x → ∃ x1, l[i]? = some x1 ∧ x1.c = x.c ∧ x1.d = x.d ∧ x1.g = x.g := by
              intro i x hx0
              obtain ⟨m, h3, h4⟩ := hwith i x hx0
              refine ⟨_, h4, ?_, ?_, ?_⟩ <;> split <;> rfl
            have hst : ∀ (i : Nat) (x : O), l0[i]? = some x → ks (i + 1) = ks i + x.c.acts.toNat ∧ (x.c.acts = true → execA call x.c (τs i) (S (ks i)) = some (vs i, S (ks i + 1)) ∨ S (ks i + 1) = S (ks i)) := by
              intro i x hx0
              obtain ⟨x1, h1, h2, h3, h4⟩ := hl i x hx0
              obtain ⟨_, g2, g3⟩ := hstep i x1 h1
              rw [← h2]
              refine ⟨g2, fun ha => ?_⟩
              rcases g3 with ⟨_, ⟨_, g⟩ | ⟨g, _⟩⟩ | ⟨_, _, g⟩
              · exact .inl g
              · rw [ha] at g; cases g
              · exact .inr (g ha)
            have hslot : ∀ (i t : Nat), i ≤ ops.size → sinceOk l0 i t = true → (X.t t).ev (τs i) = (X.t t).ev τ' := by
              intro i t hi hs
              have : ∀ d, i + d ≤ ops.size → (X.t t).ev (τs (i + d)) = (X.t t).ev (τs i) := by
                intro d
                induction d with
                | zero => intro _; rfl
                | succ d ih =>
                  intro hd
                  rw [← ih (by omega)]
                  obtain ⟨x, hx0⟩ : ∃ x, l0[i + d]? = some x := ⟨l0[i + d]'(by omega), List.getElem?_eq_getElem _⟩
                  obtain ⟨x1, h1, h2, h3, h4⟩ := hl _ x hx0
                  obtain ⟨o, ho, hco⟩ := hgetop _ x hx0
                  obtain ⟨c1, c2, c3, c4, _⟩ := cOper_ok hco
                  rw [show i + (d + 1) = i + d + 1 from rfl, (hstep _ x1 h1).1, h3, c3, ev_put c4, if_neg (by rw [← c3]; exact since_ok hs _ x (by omega) hx0)]
              have := this (ops.size - i) (by omega)
              rw [show i + (ops.size - i) = ops.size from by omega, en] at this
              exact this.symm
            have hexf : f.c.acts = true → execA call f.c (τs p) (S (ks p)) = some (vs p, S (ks p + 1)) := by
              intro ha
              obtain ⟨x1, h1, h2, h3, h4⟩ := hl p f hf
              obtain ⟨_, _, g3⟩ := hstep p x1 h1
              rcases g3 with ⟨_, ⟨_, g⟩ | ⟨g, _⟩⟩ | ⟨g, _⟩
              · rw [h2] at g; exact g
              · rw [h2, ha] at g; cases g
              · rw [h4, hfg'] at g; cases g
            have fin : ∀ (pd : PendOK P μ B w0 call S ks τs vs p mp ops l0), f.c.acts = true → (Code.region id ops true).wp P Q a w := fun pd hfa =>
              drawF_core hμ hcall hl0 hmsv hcl hedge hnt hlenms hf hmp hfg' hpair hbehind hfree hfa hguard hS00 e0 k0 en kn hstep hσ' pd ht hr hn hmix hq
            unfold kindF at hkind
            split at hkind
            · rename_i e z hfc
              have hfa : f.c.acts = true := by rw [hfc]; rfl
              rw [hof] at hkind
              unfold isAl at hkind
              simp only at hkind
              split at hkind
              · rename_i e' hop
                have hz : e' = e ∧ zeroA P e = some z := by
                  rw [hfc] at hcof
                  unfold cOp cOp0 at hcof
                  rw [hop] at hcof
                  simp only at hcof
                  cases hzz : zeroA P e' with
                  | none => rw [hzz] at hcof; cases hcof
                  | some z' => rw [hzz] at hcof; cases hcof; exact ⟨rfl, hzz⟩
                obtain ⟨rfl, hz⟩ := hz
                exact fin (pendAl hμ hr.held hcall hfc hof hop hz (hexf hfa)) hfa
              · cases hkind
            · rename_i n t y hfc
              have hfa : f.c.acts = true := by rw [hfc]; rfl
              have hfs : isSt f.c = true := by rw [hfc]; rfl
              simp only [Bool.and_eq_true] at hkind
              have hex := hexf hfa
              rw [hfc] at hex
              obtain ⟨bf, off, blk, cs', g1, g2, g3, g4, g5, g6, g7⟩ := eSt_ok hex
              have hfa' : fa = some (X.t t) := by rw [← hcfa, hfc]; rfl
              have hus' : us = unAddrs l0 mp (List.range p) := by rw [← hcus, hfs]; rfl
              unfold sepA at hsa
              rw [hfa'] at hsa
              simp only at hsa
              rw [← hslot p t (by omega) hkind.2, g1] at hsa
              simp only at hsa
              refine fin (pendSt hμ hcall hfc hof hcof hpn hst g1 g2 g3 g4 g5 g6 g7 ?_ ?_) hfa
              · intro i x hi hb hx0 ha
                obtain ⟨ti, hat, hsi⟩ := (hact1 i x hi hb hx0 ha).2 hfs
                obtain ⟨n', y', hxc⟩ := addr_ok hat
                obtain ⟨b', o', h1, h2⟩ := apart_ok hsa (X.t ti) (by rw [hus']; exact unAddrs_mem hx0 ha hb hat (by rw [List.mem_range]; exact hi))
                exact ⟨n', ti, y', b', o', hxc, by rw [hslot i ti (by omega) hsi]; exact h1, h2⟩
              · intro i x hi hb hx0 ha
                obtain ⟨o, ho, _⟩ := hgetop i x hx0
                have := hun1 i o x hi hb ho hx0
                simp only [un1, Bool.and_eq_true, ha, Bool.false_eq_true, if_false, hfs, Bool.not_true, Bool.false_or] at this
                simpa using this.2
            · cases hkind
      · cases hc
end
end Go.Proofs.YtpflpjkbiopmpaaGreatDoor.Ev
