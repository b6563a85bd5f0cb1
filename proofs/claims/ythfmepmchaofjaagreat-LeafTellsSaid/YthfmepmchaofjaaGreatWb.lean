/-
Moves of memory, further: a block is laid anew, a row of nothing mV, a block is shared. No program is named here.
-/
import Derived.Test.YthfmepmchaofjaaGreatWa
section
set_option linter.all false
namespace Go.Proofs.YthfmepmchaofjaaGreat.Ev
noncomputable section
open Go
section
variable {C : Cx} {W W' : Wd} {H H' : Hp} {σ σ' : Mem}
theorem yD {i : Nat} {hb hb' : HB} (hi : H[i]? = some hb) : (jJ H i hb')[i]? = some hb' := by rw [vB, if_pos ⟨rfl, (List.getElem?_eq_some_iff.1 hi).1⟩]
theorem yB {i j : Nat} {hb' : HB} (h : j ≠ i) : (jJ H i hb')[j]? = H[j]? := by rw [vB, if_neg (fun q => h q.1)]
theorem xP {i j : Nat} {hb hb' x : HB} (hi : H[i]? = some hb) (hx : (jJ H i hb')[j]? = some x) : (j = i ∧ x = hb') ∨ (j ≠ i ∧ H[j]? = some x) := by
 by_cases e : j = i
 ·subst e; rw [yD hi] at hx; cases hx; exact .inl ⟨rfl, rfl⟩
 ·rw [yB e] at hx; exact .inr ⟨e, hx⟩
theorem jSg (h : Rl C W H σ) {i : Nat} {hb hb' : HB} (hi : H[i]? = some hb) (hg : hb'.g = hb.g + 1) (hl : qB hb'.c)
  {blk : zZ} (he : blk.elem = hb'.e) (hpl : blk.plain = true)
  (hnew : σ'.t.get σ.nx = some blk) (hold : ∀ b, b < σ.nx → (qB hb.c → b ≠ W.as i) → σ'.t.get b = σ.t.get b) (hnx : σ'.nx = σ.nx + 1)
  (hc : ∀ W', On C W H σ W' (jJ H i hb') σ' → qU C W' (jJ H i hb') σ' hb'.c blk.cells) :
  ∃ W', Rl C W' (jJ H i hb') σ' ∧ Mv W H σ W' (jJ H i hb') σ' ∧ Tc ⟨false, [i]⟩ W H σ W' (jJ H i hb') σ' ∧ W'.as i = σ.nx := by
 let W' : Wd := ⟨W.A, W.K, fun j => if j = i then σ.nx else W.as j⟩
 have hi' : W'.as i = σ.nx := if_pos rfl
 have has : ∀ j, j ≠ i → W'.as j = W.as j := fun j hj => if_neg hj
 have hAi : qB hb.c → ¬ W.A (W.as i) ∧ W.K (W.as i) = none := fun q => h.nA i hb hi q
 have oldA : ∀ b, W.A b → σ'.t.get b = σ.t.get b := fun b hb' => hold b (h.A b hb').1 fun q e => (hAi q).1 (by rw [← e]; exact hb')
 have oldK : ∀ b x, W.K b = some x → σ'.t.get b = σ.t.get b := fun b x hx => hold b (h.K b x hx).1 fun q e => by rw [e, (hAi q).2] at hx; cases hx
 have oldH : ∀ (j : Nat) (x : HB), j ≠ i → H[j]? = some x → qB x.c → σ'.t.get (W.as j) = σ.t.get (W.as j) := fun j x hj hx hlx => hold _ (h.lt j x hx hlx) fun q e => hj (h.inj j i x hb hx hi hlx q e)
 have go : Go' W σ W' σ' := ⟨fun _ h => h, fun _ _ h => h, fun b hbA x hx => ⟨x, by rw [oldA b hbA]; exact hx, Shp.rfl' x⟩, fun b x hx hgx => by rw [oldK b x hx]; exact hgx⟩
 have hp : vZ W H W' (jJ H i hb') := by
  intro j x hx
  by_cases e : j = i
  ·subst e
   rw [hi] at hx; cases hx
   exact ⟨hb', yD hi, by omega, fun q => by omega⟩
  ·exact ⟨x, by rw [yB e]; exact hx, Nat.le_refl _, fun _ => ⟨has j e, zE.refl _⟩⟩
 have on : On C W H σ W' (jJ H i hb') σ' := ⟨go, hp, h.kok⟩
 refine ⟨W', ⟨?_, ?_, ?_, ?_, ?_, ?_⟩, ⟨go, hp, by omega, ?_, fun b _ q => .inl q, fun b _ q => .inl q, ?_⟩, ?_, hi'⟩
 ·intro j k x y hx hy hlx hly q
  rcases xP hi hx with ⟨ej, ex⟩ | ⟨hj, hx2⟩ <;> rcases xP hi hy with ⟨ek, ey⟩ | ⟨hk, hy2⟩
  ·rw [ej, ek]
  ·rw [ej, hi', has k hk] at q; have := h.lt k y hy2 hly; omega
  ·rw [ek, hi', has j hj] at q; have := h.lt j x hx2 hlx; omega
  ·rw [has j hj, has k hk] at q; exact h.inj j k x y hx2 hy2 hlx hly q
 ·intro j x hx hlx
  rcases xP hi hx with ⟨rfl, rfl⟩ | ⟨hj, hx⟩
  ·exact ⟨blk, by rw [hi']; exact hnew, he, hpl, hc W' on⟩
  ·obtain ⟨b0, g1, g2, g3, g4⟩ := h.blk j x hx hlx
   exact ⟨b0, by rw [has j hj, oldH j x hj hx hlx]; exact g1, g2, g3, g4.on on⟩
 ·intro j x hx hlx
  rcases xP hi hx with ⟨rfl, rfl⟩ | ⟨hj, hx⟩
  ·rw [hi']; omega
  ·have := h.lt j x hx hlx; rw [has j hj]; omega
 ·intro j x hx hlx
  rcases xP hi hx with ⟨rfl, rfl⟩ | ⟨hj, hx⟩
  ·rw [hi']
   refine ⟨fun q => by have := (h.A _ q).1; omega, ?_⟩
   show W.K σ.nx = none
   cases q : W.K σ.nx with
   | none => rfl
   | some x => have := (h.K _ _ q).1; omega
  ·rw [has j hj]; exact h.nA j x hx hlx
 ·intro b hb
  obtain ⟨g1, ⟨x, g2⟩, g3⟩ := h.A b hb
  exact ⟨by omega, ⟨x, by rw [oldA b hb]; exact g2⟩, g3⟩
 ·intro b x hx
  obtain ⟨g1, g2⟩ := h.K b x hx
  exact ⟨by omega, go.kk b x hx g2⟩
 ·intro b hlt h1 h2
  exact hold b hlt fun q e => h2 ⟨i, hb, hi, q, e.symm⟩
 ·rintro b hlt ⟨j, x, hx, hlx, q⟩
  rcases xP hi hx with ⟨rfl, rfl⟩ | ⟨hj, hx⟩
  ·rw [hi'] at q; omega
  ·rw [has j hj] at q; exact ⟨j, x, hx, hlx, q⟩
 ·intro κ hκ b
  cases κ with
  | h j =>
   have hj : j ≠ i := by have := yP hκ; simpa using this
   refine ⟨by simp only [uD, yB hj, has j hj], fun hk => ?_⟩
   obtain ⟨x, hx, hlx, rfl⟩ := hk
   exact oldH j x hj hx hlx
  | a =>
   refine ⟨Iff.rfl, fun hk => ?_⟩
   rcases hk with hk | hk
   ·exact oldA b hk
   ·obtain ⟨x, hx⟩ := Option.isSome_iff_exists.1 hk
    exact oldK b x hx
  | c =>
   refine ⟨Iff.rfl, fun hk => ?_⟩
   obtain ⟨x, hx⟩ := Option.isSome_iff_exists.1 hk
   exact oldK b x hx
theorem eT (h : Rl C W H σ) {hb' : HB} (hl : ¬ qB hb'.c) : Rl C W (H ++ [hb']) σ ∧ Mv W H σ W (H ++ [hb']) σ ∧ Tc ⟨false, [H.length]⟩ W H σ W (H ++ [hb']) σ := by
 have hgetl : ∀ (j : Nat) (x : HB), H[j]? = some x → (H ++ [hb'])[j]? = some x := fun j x hx => by rw [List.getElem?_append_left (List.getElem?_eq_some_iff.1 hx).1]; exact hx
 have old : ∀ (j : Nat) (x : HB), (H ++ [hb'])[j]? = some x → qB x.c → H[j]? = some x := by
  intro j x hx hlx
  by_cases hj : j < H.length
  ·rw [List.getElem?_append_left hj] at hx; exact hx
  ·rw [List.getElem?_append_right (by omega)] at hx
   cases q : j - H.length with
   | zero => rw [q] at hx; simp at hx; subst hx; exact (hl hlx).elim
   | succ n => rw [q] at hx; simp at hx
 have hp : vZ W H W (H ++ [hb']) := fun j x hx => ⟨x, hgetl j x hx, Nat.le_refl _, fun _ => ⟨rfl, zE.refl _⟩⟩
 have on : On C W H σ W (H ++ [hb']) σ := ⟨Go'.refl, hp, h.kok⟩
 have own : ∀ b, Own W (H ++ [hb']) b → Own W H b := fun b ⟨j, x, hx, hlx, e⟩ => ⟨j, x, old j x hx hlx, hlx, e⟩
 refine ⟨⟨fun j k x y hx hy hlx hly q => h.inj j k x y (old j x hx hlx) (old k y hy hly) hlx hly q, fun j x hx hlx => ?_, fun j x hx hlx => h.lt j x (old j x hx hlx) hlx, fun j x hx hlx => h.nA j x (old j x hx hlx) hlx, h.A, h.K⟩, ⟨Go'.refl, hp, Nat.le_refl _, fun _ _ _ _ => rfl, fun _ _ q => .inl q, fun _ _ q => .inl q, fun b _ q => own b q⟩, ?_⟩
 ·obtain ⟨b0, g1, g2, g3, g4⟩ := h.blk j x (old j x hx hlx) hlx
  exact ⟨b0, g1, g2, g3, g4.on on⟩
 ·intro κ hκ b
  refine ⟨?_, fun _ => rfl⟩
  cases κ with
  | h j => exact ⟨fun ⟨x, hx, hlx, e⟩ => ⟨x, hgetl j x hx, hlx, e⟩, fun ⟨x, hx, hlx, e⟩ => ⟨x, old j x hx hlx, hlx, e⟩⟩
  | a => exact Iff.rfl
  | c => exact Iff.rfl
theorem jVd (h : Rl C W H σ) {i : Nat} {hb hb' : HB} (hi : H[i]? = some hb) (hg : hb.g < hb'.g) (hl : ¬ qB hb'.c) :
  Rl C W (jJ H i hb') σ ∧ Mv W H σ W (jJ H i hb') σ ∧ Tc ⟨false, [i]⟩ W H σ W (jJ H i hb') σ := by
 have old : ∀ (j : Nat) (x : HB), (jJ H i hb')[j]? = some x → qB x.c → H[j]? = some x := by
  intro j x hx hlx
  rcases xP hi hx with ⟨rfl, rfl⟩ | ⟨hj, hx⟩
  ·exact absurd hlx hl
  ·exact hx
 have hp : vZ W H W (jJ H i hb') := by
  intro j x hx
  by_cases e : j = i
  ·subst e
   rw [hi] at hx; cases hx
   exact ⟨hb', yD hi, by omega, fun q => by omega⟩
  ·exact ⟨x, by rw [yB e]; exact hx, Nat.le_refl _, fun _ => ⟨rfl, zE.refl _⟩⟩
 have on : On C W H σ W (jJ H i hb') σ := ⟨Go'.refl, hp, h.kok⟩
 have own : ∀ b, Own W (jJ H i hb') b → Own W H b := by
  rintro b ⟨j, x, hx, hlx, e⟩
  exact ⟨j, x, old j x hx hlx, hlx, e⟩
 refine ⟨⟨fun j k x y hx hy hlx hly q => h.inj j k x y (old j x hx hlx) (old k y hy hly) hlx hly q, fun j x hx hlx => ?_, fun j x hx hlx => h.lt j x (old j x hx hlx) hlx, fun j x hx hlx => h.nA j x (old j x hx hlx) hlx, h.A, h.K⟩, ⟨Go'.refl, hp, Nat.le_refl _, fun _ _ _ _ => rfl, fun _ _ q => .inl q, fun _ _ q => .inl q, fun b _ q => own b q⟩, ?_⟩
 ·obtain ⟨b0, g1, g2, g3, g4⟩ := h.blk j x (old j x hx hlx) hlx
  exact ⟨b0, g1, g2, g3, g4.on on⟩
 ·intro κ hκ b
  refine ⟨?_, fun _ => rfl⟩
  cases κ with
  | h j =>
   have hj : j ≠ i := by
    intro q; subst q
    simp [pK, mW] at hκ
   simp only [uD, yB hj]
  | a => exact Iff.rfl
  | c => exact Iff.rfl
theorem jXc (h : Rl C W H σ) {i : Nat} {hb hb' : HB} (hi : H[i]? = some hb) (hg : hb.g < hb'.g) (he : hb'.e = hb.e) (hc : (qB hb'.c ↔ qB hb.c) ∧ ∀ (W' : Wd) (H' : Hp) (σ' : Mem) (cs : List AV), qU C W' H' σ' hb.c cs → qU C W' H' σ' hb'.c cs) :
  Rl C W (jJ H i hb') σ ∧ Mv W H σ W (jJ H i hb') σ ∧ Tc ⟨false, [i]⟩ W H σ W (jJ H i hb') σ := by
 have old : ∀ (j : Nat) (x : HB), (jJ H i hb')[j]? = some x → ∃ y : HB, H[j]? = some y ∧ ((qB x.c ↔ qB y.c) ∧ ∀ (W' : Wd) (H' : Hp) (σ' : Mem) (cs : List AV), qU C W' H' σ' y.c cs → qU C W' H' σ' x.c cs) ∧ y.e = x.e := by
  intro j x hx
  rcases xP hi hx with ⟨rfl, rfl⟩ | ⟨hj, hx⟩
  ·exact ⟨hb, hi, hc, he.symm⟩
  ·exact ⟨x, hx, ⟨Iff.rfl, fun _ _ _ _ q => q⟩, rfl⟩
 have hp : vZ W H W (jJ H i hb') := by
  intro j x hx
  by_cases e : j = i
  ·subst e
   rw [hi] at hx; cases hx
   exact ⟨hb', yD hi, by omega, fun q => by omega⟩
  ·exact ⟨x, by rw [yB e]; exact hx, Nat.le_refl _, fun _ => ⟨rfl, zE.refl _⟩⟩
 have on : On C W H σ W (jJ H i hb') σ := ⟨Go'.refl, hp, h.kok⟩
 have own : ∀ b, Own W (jJ H i hb') b → Own W H b := by
  rintro b ⟨j, x, hx, hlx, e⟩
  obtain ⟨y, hy, e1, _⟩ := old j x hx
  exact ⟨j, y, hy, e1.1.1 hlx, e⟩
 refine ⟨⟨fun j k x y hx hy hlx hly q => ?_, fun j x hx hlx => ?_, fun j x hx hlx => ?_, fun j x hx hlx => ?_, h.A, h.K⟩, ⟨Go'.refl, hp, Nat.le_refl _, fun _ _ _ _ => rfl, fun _ _ q => .inl q, fun _ _ q => .inl q, fun b _ q => own b q⟩, ?_⟩
 ·obtain ⟨x', hx', e1, _⟩ := old j x hx
  obtain ⟨y', hy', e2, _⟩ := old k y hy
  exact h.inj j k x' y' hx' hy' (e1.1.1 hlx) (e2.1.1 hly) q
 ·obtain ⟨x', hx', e1, e2⟩ := old j x hx
  obtain ⟨b0, g1, g2, g3, g4⟩ := h.blk j x' hx' (e1.1.1 hlx)
  refine ⟨b0, g1, by rw [g2, e2], g3, ?_⟩
  exact e1.2 _ _ _ _ (g4.on on)
 ·obtain ⟨x', hx', e1, _⟩ := old j x hx
  exact h.lt j x' hx' (e1.1.1 hlx)
 ·obtain ⟨x', hx', e1, _⟩ := old j x hx
  exact h.nA j x' hx' (e1.1.1 hlx)
 ·intro κ hκ b
  refine ⟨?_, fun _ => rfl⟩
  cases κ with
  | h j =>
   have hj : j ≠ i := by have := yP hκ; simpa using this
   simp only [uD, yB hj]
  | a => exact Iff.rfl
  | c => exact Iff.rfl
theorem jLx (h : Rl C W H σ) {i : Nat} {hb hb' : HB} (hi : H[i]? = some hb) (hg : hb.g < hb'.g) (he : hb'.e = hb.e) (hl : qB hb'.c ↔ qB hb.c)
  (hcell : ∀ blk, σ.t.get (W.as i) = some blk → qU C W H σ hb.c blk.cells → qU C W H σ hb'.c blk.cells) :
  Rl C W (jJ H i hb') σ ∧ Mv W H σ W (jJ H i hb') σ ∧ Tc ⟨false, [i]⟩ W H σ W (jJ H i hb') σ := by
 have old : ∀ (j : Nat) (x : HB), (jJ H i hb')[j]? = some x → ∃ y : HB, H[j]? = some y ∧ (qB x.c ↔ qB y.c) ∧ y.e = x.e ∧ (∀ blk, σ.t.get (W.as j) = some blk → qU C W H σ y.c blk.cells → qU C W H σ x.c blk.cells) := by
  intro j x hx
  rcases xP hi hx with ⟨rfl, rfl⟩ | ⟨hj, hx⟩
  ·exact ⟨hb, hi, hl, he.symm, hcell⟩
  ·exact ⟨x, hx, Iff.rfl, rfl, fun _ _ q => q⟩
 have hp : vZ W H W (jJ H i hb') := by
  intro j x hx
  by_cases e : j = i
  ·subst e
   rw [hi] at hx; cases hx
   exact ⟨hb', yD hi, by omega, fun q => by omega⟩
  ·exact ⟨x, by rw [yB e]; exact hx, Nat.le_refl _, fun _ => ⟨rfl, zE.refl _⟩⟩
 have on : On C W H σ W (jJ H i hb') σ := ⟨Go'.refl, hp, h.kok⟩
 have own : ∀ b, Own W (jJ H i hb') b → Own W H b := by
  rintro b ⟨j, x, hx, hlx, e⟩
  obtain ⟨y, hy, e1, _⟩ := old j x hx
  exact ⟨j, y, hy, e1.1 hlx, e⟩
 refine ⟨⟨fun j k x y hx hy hlx hly q => ?_, fun j x hx hlx => ?_, fun j x hx hlx => ?_, fun j x hx hlx => ?_, h.A, h.K⟩, ⟨Go'.refl, hp, Nat.le_refl _, fun _ _ _ _ => rfl, fun _ _ q => .inl q, fun _ _ q => .inl q, fun b _ q => own b q⟩, ?_⟩
 ·obtain ⟨x', hx', e1, _⟩ := old j x hx
  obtain ⟨y', hy', e2, _⟩ := old k y hy
  exact h.inj j k x' y' hx' hy' (e1.1 hlx) (e2.1 hly) q
 ·obtain ⟨x', hx', e1, e2, e3⟩ := old j x hx
  obtain ⟨b0, g1, g2, g3, g4⟩ := h.blk j x' hx' (e1.1 hlx)
  refine ⟨b0, g1, by rw [g2, e2], g3, ?_⟩
  exact (e3 b0 g1 g4).on on
 ·obtain ⟨x', hx', e1, _⟩ := old j x hx
  exact h.lt j x' hx' (e1.1 hlx)
 ·obtain ⟨x', hx', e1, _⟩ := old j x hx
  exact h.nA j x' hx' (e1.1 hlx)
 ·intro κ hκ b
  refine ⟨?_, fun _ => rfl⟩
  cases κ with
  | h j =>
   have hj : j ≠ i := by have := yP hκ; simpa using this
   simp only [uD, yB hj]
  | a => exact Iff.rfl
  | c => exact Iff.rfl
def wN (W : Wd) (H : Hp) (σ : Mem) (Wf : Wd) (i : Nat) : Prop := ∀ hb : HB, H[i]? = some hb → qB hb.c → (∀ l, hb.c = .xs l → ∃ blk, σ.t.get (W.as i) = some blk ∧ Wf.K (W.as i) = some blk) ∧ ((∀ l, hb.c ≠ .xs l) → Wf.A (W.as i))
theorem tK {i : Nat} {hb : HB} (hi : H[i]? = some hb) : dead H i = jJ H i ⟨hb.e, Nat.succ hb.g, .dead⟩ := by
 unfold dead; rw [qJ, hi]
theorem hM {i : Nat} (hi : H[i]? = none) : dead H i = H := by
 unfold dead; rw [qJ, hi]
theorem rR (h : Rl C W H σ) (i : Nat) : ∃ Wf : Wd, Rl C Wf (dead H i) σ ∧ Mv W H σ Wf (dead H i) σ ∧ Tc ⟨true, [i]⟩ W H σ Wf (dead H i) σ ∧ wN W H σ Wf i ∧ Wf.as = W.as ∧
  (∀ b, Wf.A b → W.A b ∨ ∃ hb : HB, H[i]? = some hb ∧ qB hb.c ∧ (∀ l, hb.c ≠ .xs l) ∧ W.as i = b) ∧ (∀ b x, Wf.K b = some x → W.K b = some x ∨ ∃ (hb : HB) (l : List (Nat × Nat)), H[i]? = some hb ∧ qB hb.c ∧ hb.c = .xs l ∧ W.as i = b) := by
 cases hi : H[i]? with
 | none =>
  rw [hM hi]
  exact ⟨W, h, Mv.refl, Tc.refl _ _ _ _, fun hb e => (by rw [hi] at e; cases e), rfl, fun b q => .inl q, fun b x q => .inl q⟩
 | some hb =>
  rw [tK hi]
  have hsub : ∀ (Wf : Wd), Wf.as = W.as → (∀ b, W.A b → Wf.A b) → (∀ b x, W.K b = some x → Wf.K b = some x) → (∀ b, Wf.A b → W.A b ∨ (qB hb.c ∧ (∀ l, hb.c ≠ .xs l) ∧ W.as i = b)) → (∀ b x, Wf.K b = some x → W.K b = some x ∨ (qB hb.c ∧ (∃ l, hb.c = .xs l) ∧ W.as i = b ∧ σ.t.get b = some x)) →
    Rl C Wf (jJ H i ⟨hb.e, Nat.succ hb.g, .dead⟩) σ ∧ Mv W H σ Wf (jJ H i ⟨hb.e, Nat.succ hb.g, .dead⟩) σ ∧ Tc ⟨true, [i]⟩ W H σ Wf (jJ H i ⟨hb.e, Nat.succ hb.g, .dead⟩) σ := by
   intro Wf eas hA hK hA' hK'
   have go : Go' W σ Wf σ := ⟨hA, hK, fun b _ x hx => ⟨x, hx, Shp.rfl' x⟩, fun b x _ hx => hx⟩
   have hp : vZ W H Wf (jJ H i ⟨hb.e, Nat.succ hb.g, .dead⟩) := by
    intro j x hx
    by_cases e : j = i
    ·subst e
     rw [hi] at hx; cases hx
     exact ⟨_, yD hi, Nat.le_succ _, fun q => absurd q (Nat.succ_ne_self _)⟩
    ·exact ⟨x, by rw [yB e]; exact hx, Nat.le_refl _, fun _ => ⟨by rw [eas], zE.refl _⟩⟩
   have on : On C W H σ Wf (jJ H i ⟨hb.e, Nat.succ hb.g, .dead⟩) σ := ⟨go, hp, h.kok⟩
   have old : ∀ (j : Nat) (x : HB), (jJ H i ⟨hb.e, Nat.succ hb.g, .dead⟩)[j]? = some x → qB x.c → j ≠ i ∧ H[j]? = some x := by
    intro j x hx hlx
    rcases xP hi hx with ⟨rfl, rfl⟩ | ⟨hj, hx⟩
    ·exact hlx.elim
    ·exact ⟨hj, hx⟩
   refine ⟨⟨?_, ?_, ?_, ?_, ?_, ?_⟩, ⟨go, hp, Nat.le_refl _, fun _ _ _ _ => rfl, ?_, ?_, ?_⟩, ?_⟩
   ·intro j k x y hx hy hlx hly q
    rw [eas] at q
    exact h.inj j k x y (old j x hx hlx).2 (old k y hy hly).2 hlx hly q
   ·intro j x hx hlx
    obtain ⟨b0, g1, g2, g3, g4⟩ := h.blk j x (old j x hx hlx).2 hlx
    exact ⟨b0, by rw [eas]; exact g1, g2, g3, g4.on on⟩
   ·intro j x hx hlx; rw [eas]; exact h.lt j x (old j x hx hlx).2 hlx
   ·intro j x hx hlx
    obtain ⟨hj, hx'⟩ := old j x hx hlx
    obtain ⟨n1, n2⟩ := h.nA j x hx' hlx
    rw [eas]
    refine ⟨fun q => ?_, ?_⟩
    ·rcases hA' _ q with q | ⟨q1, _, q3⟩
     ·exact n1 q
     ·exact hj (h.inj j i x hb hx' hi hlx q1 q3.symm)
    ·cases q : Wf.K (W.as j) with
     | none => rfl
     | some z =>
      rcases hK' _ _ q with q | ⟨q1, _, q3, _⟩
      ·rw [n2] at q; cases q
      ·exact absurd (h.inj j i x hb hx' hi hlx q1 q3.symm) hj
   ·intro b hb2
    rcases hA' _ hb2 with q | ⟨q1, q2, rfl⟩
    ·obtain ⟨g1, g2, g3⟩ := h.A b q
     refine ⟨g1, g2, ?_⟩
     cases z : Wf.K b with
     | none => rfl
     | some x =>
      rcases hK' _ _ z with z | ⟨z1, _, rfl, _⟩
      ·rw [g3] at z; cases z
      ·exact absurd q (h.nA i hb hi z1).1
    ·obtain ⟨b0, g1, _⟩ := h.blk i hb hi q1
     refine ⟨h.lt i hb hi q1, ⟨b0, g1⟩, ?_⟩
     cases z : Wf.K (W.as i) with
     | none => rfl
     | some x =>
      rcases hK' _ _ z with z | ⟨_, ⟨l, z2⟩, _⟩
      ·rw [(h.nA i hb hi q1).2] at z; cases z
      ·exact absurd z2 (q2 l)
   ·intro b x hx
    rcases hK' _ _ hx with q | ⟨q1, _, rfl, q4⟩
    ·exact h.K b x q
    ·exact ⟨h.lt i hb hi q1, q4⟩
   ·intro b _ q
    rcases hA' _ q with q | ⟨q1, _, q3⟩
    ·exact .inl q
    ·exact .inr ⟨i, hb, hi, q1, q3⟩
   ·intro b _ q
    obtain ⟨x, hx⟩ := Option.isSome_iff_exists.1 q
    rcases hK' _ _ hx with q | ⟨q1, _, q3, _⟩
    ·left; rw [q]; rfl
    ·exact .inr ⟨i, hb, hi, q1, q3⟩
   ·rintro b _ ⟨j, x, hx, hlx, e⟩
    rw [eas] at e
    exact ⟨j, x, (old j x hx hlx).2, hlx, e⟩
   ·intro κ hκ b
    refine ⟨?_, fun _ => rfl⟩
    cases κ with
    | h j =>
     have hj : j ≠ i := by have := yP hκ; simpa using this
     simp only [uD, yB hj, eas]
    | a => cases hκ
    | c => cases hκ
  by_cases hl : qB hb.c
  ·obtain ⟨b0, g1, g2, g3, g4⟩ := h.blk i hb hi hl
   by_cases hx : ∃ l, hb.c = .xs l
   ·obtain ⟨l, hx⟩ := hx
    have hKi := (h.nA i hb hi hl).2
    have := hsub ⟨W.A, fun b => if b = W.as i then some b0 else W.K b, W.as⟩ rfl (fun _ q => q) (fun b x q => by
      show (if b = W.as i then some b0 else W.K b) = some x
      rw [if_neg (by rintro rfl; rw [hKi] at q; cases q)]; exact q) (fun _ q => .inl q) (fun b x q => by
      by_cases e : b = W.as i
      ·subst e
       have q' : (if W.as i = W.as i then some b0 else W.K (W.as i)) = some x := q
       rw [if_pos rfl] at q'; cases q'
       exact .inr ⟨hl, ⟨l, hx⟩, rfl, g1⟩
      ·have q' : (if b = W.as i then some b0 else W.K b) = some x := q
       rw [if_neg e] at q'; exact .inl q')
    refine ⟨_, this.1, this.2.1, this.2.2, ?_, rfl, fun b q => .inl q, ?_⟩
    ·intro hb2 e1 hl2
     rw [hi] at e1; cases e1
     exact ⟨fun _ _ => ⟨b0, g1, if_pos rfl⟩, fun q => absurd hx (q l)⟩
    ·intro b x q
     by_cases e : b = W.as i
     ·exact .inr ⟨hb, l, rfl, hl, hx, e.symm⟩
     ·have q' : (if b = W.as i then some b0 else W.K b) = some x := q
      rw [if_neg e] at q'; exact .inl q'
   ·have hx' : ∀ l, hb.c ≠ .xs l := fun l e => hx ⟨l, e⟩
    have := hsub ⟨fun b => W.A b ∨ W.as i = b, W.K, W.as⟩ rfl (fun _ q => .inl q) (fun _ _ q => q) (fun b q => by
      rcases q with q | q
      ·exact .inl q
      ·exact .inr ⟨hl, hx', q⟩) (fun _ _ q => .inl q)
    refine ⟨_, this.1, this.2.1, this.2.2, ?_, rfl, ?_, fun b x q => .inl q⟩
    ·intro hb2 e1 hl2
     rw [hi] at e1; cases e1
     exact ⟨fun l e => absurd e (hx' l), fun _ => .inr rfl⟩
    ·intro b q
     rcases q with q | q
     ·exact .inl q
     ·exact .inr ⟨hb, rfl, hl, hx', q⟩
  ·have := hsub W rfl (fun _ q => q) (fun _ _ q => q) (fun _ q => .inl q) (fun _ _ q => .inl q)
   refine ⟨W, this.1, this.2.1, this.2.2, ?_, rfl, fun b q => .inl q, fun b x q => .inl q⟩
   intro hb2 e1 hl2
   rw [hi] at e1; cases e1
   exact absurd hl2 hl
end
end
end Go.Proofs.YthfmepmchaofjaaGreat.Ev
end
section
set_option linter.all false
namespace Go.Proofs.YthfmepmchaofjaaGreat.Ev
noncomputable section
open Go
theorem jUq {L k k' j j' : Nat} (h : j < L) (h' : j' < L) (e : k * L + j = k' * L + j') : k = k' ∧ j = j' := by
 have h1 : (k * L + j) / L = k := by rw [Nat.mul_comm, Nat.mul_add_div (by omega), Nat.div_eq_of_lt h, Nat.add_zero]
 have h2 : (k' * L + j') / L = k' := by rw [Nat.mul_comm, Nat.mul_add_div (by omega), Nat.div_eq_of_lt h', Nat.add_zero]
 have : k = k' := by rw [← h1, ← h2, e]
 subst this
 exact ⟨rfl, by omega⟩
theorem jJf {L n k j : Nat} (hk : k < n) (hj : j < L) : k * L + j < n * L := by
 calc k * L + j < k * L + L := by omega
  _ = (k + 1) * L := by rw [Nat.add_mul, Nat.one_mul]
  _ ≤ n * L := Nat.mul_le_mul_right _ hk
theorem jBn {α : Type} : ∀ (l : List α) (i : Nat) (x : α), l[i]? = some x → jJ l i x = l
 | [], i, x, h => by simp at h
 | a :: l, 0, x, h => by simp at h; simp [jJ, h]
 | a :: l, i + 1, x, h => by simp at h; simp [jJ, jBn l i x h]
theorem kR : ∀ {l : List SV}, qF l = true ↔ ∀ (i : Nat) (x : SV), l[i]? = some x → jDx x = true
 | [] => by simp [qF]
 | a :: l => by
  simp only [qF, Bool.and_eq_true, kR (l := l)]
  constructor
  ·rintro ⟨h1, h2⟩ i x e
   cases i with
   | zero => simp at e; subst e; exact h1
   | succ i => exact h2 i x (by simpa using e)
  ·intro h
   exact ⟨h 0 a rfl, fun i x e => h (i + 1) x (by simpa using e)⟩
theorem gD : ∀ {l : List AV}, jT l = true ↔ ∀ (i : Nat) (x : AV), l[i]? = some x → x.one = true
 | [] => by simp [jT]
 | a :: l => by
  simp only [jT, Bool.and_eq_true, gD (l := l)]
  constructor
  ·rintro ⟨h1, h2⟩ i x e
   cases i with
   | zero => simp at e; subst e; exact h1
   | succ i => exact h2 i x (by simpa using e)
  ·intro h
   exact ⟨h 0 a rfl, fun i x e => h (i + 1) x (by simpa using e)⟩
theorem eA {σ : Mem} {e : Nat} {pl : Bool} {cells : List AV} {k : Nat → AV} (h : jT cells = true) : kL σ e pl cells k = some (k σ.nx, ⟨Tr.put σ.t σ.nx (some ⟨e, pl, cells⟩), σ.nx + 1, σ.it⟩) := by
 simp [kL, h, Mem.new]
theorem vW (t : Tr zZ) (k : Nat) (x : Option zZ) (b : Nat) : (Tr.put t k x).get b = if b = k then x else t.get b := Tr.get_set30 x t k b (Nat.zero_le _)
theorem oK {σ : Mem} {b o : Nat} {blk : zZ} {v : AV} (hg : σ.t.get b = some blk) (hv : blk.cells[o]? = some v) : ldA σ b o none = some v := by
 obtain ⟨ho, hv'⟩ := List.getElem?_eq_some_iff.1 hv
 have : zS 1 (zM o blk.cells) = some [v] := by
  rw [zD, gU (by simp; omega), List.drop_eq_getElem_cons ho, hv']
  rfl
 simp only [ldA, Mem.load, hg, this]
theorem jEc {σ : Mem} {b o n : Nat} {blk : zZ} (hg : σ.t.get b = some blk) (h : n ≤ (blk.cells.drop o).length) : ldA σ b o (some n) = some (.agg ((blk.cells.drop o).take n)) := by
 simp only [ldA, Mem.load, hg, zD, gU h]
section
variable {C : Cx} {W W' : Wd} {H H' : Hp} {σ σ' : Mem}
theorem jLi {ty : Ty} {v : AV} {Q : P1} (t : TV C W σ ty v) (h : jWt ty Q) : ∃ s, Q s ∧ sv C W H σ s v := by
 cases t with
 | i k n => exact ⟨_, h n, rfl⟩
 | b x => exact ⟨_, h x, rfl⟩
 | s m n v h1 h2 => exact ⟨_, h n v h1 h2, rfl, h2⟩
 | q0 T r => exact ⟨_, h 0 (Nat.zero_le _), .q0 _ _, .inl ⟨rfl, rfl⟩⟩
 | qe T r b o => exact ⟨_, h 0 (Nat.zero_le _), .qe _ _ _ _, .inr ⟨_, _, rfl⟩⟩
 | q T r b o n hn blk hb hg κ hs hp cs hc ht => exact ⟨_, h n hn, .q T r b o n hn blk hb hg κ hs hp cs hc ht, .inr ⟨_, _, rfl⟩⟩
theorem jGn : ∀ {tys : List Ty} {cs : List AV} {Q : List SV → Prop}, cs.length = tys.length → (∀ (j : Nat) (ty : Ty), tys[j]? = some ty → ∃ c : AV, cs[j]? = some c ∧ TV C W σ ty c) → jBy tys Q → ∃ l, Q l ∧ svs C W H σ l cs
 | [], cs, Q, hl, _, h => by simp at hl; subst hl; exact ⟨[], h, rfl⟩
 | t :: r, [], Q, hl, _, h => by simp at hl
 | t :: r, c :: cs, Q, hl, ht, h => by
  obtain ⟨c', e, h1⟩ := ht 0 t rfl
  simp at e; subst e
  obtain ⟨s, h2, h3⟩ := jLi (H := H) h1 h
  obtain ⟨l, h4, h5⟩ := jGn (by simpa using hl) (fun j ty e => by simpa using ht (j + 1) ty (by simpa using e)) h2
  exact ⟨s :: l, h4, _, _, rfl, h3, h5⟩
theorem jLy {tys : List Ty} {b o off : Nat} {n : Option Nat} {blk : zZ} {Q : P1} (hg : σ.t.get b = some blk)
  (hc : ∀ (j : Nat) (ty : Ty), tys[j]? = some ty → ∃ c : AV, blk.cells[o + j]? = some c ∧ TV C W σ ty c) (h : jHp tys off n Q) : PO C W H σ (ldA σ b (o + off) n) Q := by
 unfold jHp at h
 split at h
 ·split at h
  ·rename_i t ht
   rw [qJ] at ht
   obtain ⟨c, h1, h2⟩ := hc off t ht
   obtain ⟨s, h3, h4⟩ := jLi (H := H) h2 h
   exact ⟨c, s, oK hg h1, h3, h4⟩
  ·exact h.elim
 ·rename_i n
  split at h
  ·rename_i l hl
   obtain ⟨rfl, hn⟩ := xJ _ _ _ hl
   rw [zD] at h hn
   have hlen : n ≤ (blk.cells.drop (o + off)).length := by
    cases n with
    | zero => simp
    | succ n =>
     simp at hn
     obtain ⟨t, ht⟩ : ∃ t, tys[off + n]? = some t := ⟨_, List.getElem?_eq_some_iff.2 ⟨by omega, rfl⟩⟩
     obtain ⟨c, h1, _⟩ := hc _ t ht
     have := (List.getElem?_eq_some_iff.1 h1).1
     simp; omega
   obtain ⟨l, h3, h4⟩ := jGn (C := C) (W := W) (H := H) (σ := σ) (cs := (blk.cells.drop (o + off)).take n) (by simp at hn hlen ⊢; omega) (fun j ty e => by
    rw [List.getElem?_take] at e ⊢
    split at e
    ·rename_i hj
     rw [if_pos hj, List.getElem?_drop, Nat.add_assoc]
     rw [List.getElem?_drop] at e
     exact hc _ ty e
    ·cases e) h
   exact ⟨_, _, jEc hg hlen, h3, _, rfl, h4⟩
  ·exact h.elim
theorem jTp {c : Nd} {v : AV} (h : nd W.K c v) : sv C W H σ (ofN c) v := by
 cases c with
 | i k n => exact h
 | b x => exact h
 | s n u => exact h
 | q w l => exact h
theorem nds.get : ∀ {l : List Nd} {f : Nat → Option AV}, nds W.K l f → ∀ (i : Nat) (c : Nd), l[i]? = some c → ∃ x, f i = some x ∧ nd W.K c x
 | [], f, h, i, c, e => by simp at e
 | a :: l, f, h, 0, c, e => by simp only [nds] at h; simp at e; subst e; exact h.1
 | a :: l, f, h, i + 1, c, e => by
  simp only [nds] at h
  exact nds.get h.2 i c (by simpa using e)
theorem nds.drop : ∀ {l : List Nd} {f : Nat → Option AV} (k : Nat), nds W.K l f → nds W.K (l.drop k) fun m => f (k + m)
 | l, f, 0, h => by simpa using h
 | [], f, k + 1, h => by simp [nds]
 | a :: l, f, k + 1, h => by
  simp only [nds] at h
  have := nds.drop k h.2
  rw [List.drop_succ_cons]
  have e : (fun m => f (k + 1 + m)) = fun m => f (k + m + 1) := by funext m; congr 1; omega
  rw [e]; exact this
theorem ndR.get : ∀ {l : List (List Nd)} {w : Nat} {f : Nat → Option AV}, ndR W.K l w f → ∀ (i : Nat) (c : List Nd), l[i]? = some c → c.length = w ∧ nds W.K c fun m => f (i * w + m)
 | [], w, f, h, i, c, e => by simp at e
 | a :: l, w, f, h, 0, c, e => by simp only [ndR] at h; simp at e; subst e; simpa using h.1
 | a :: l, w, f, h, i + 1, c, e => by
  simp only [ndR] at h
  have := ndR.get h.2 i c (by simpa using e)
  refine ⟨this.1, ?_⟩
  have e : (fun m => f ((i + 1) * w + m)) = fun m => f (i * w + m + w) := by funext m; rw [Nat.add_mul, Nat.one_mul]; congr 1; omega
  rw [e]; exact this.2
theorem jZy {l : List Nd} {b o : Nat} {n : Option Nat} {blk : zZ} {Q : P1} (hg : σ.t.get b = some blk) (hc : nds W.K l fun m => blk.cells[o + m]?) (h : ldN l n Q) : PO C W H σ (ldA σ b o n) Q := by
 unfold ldN at h
 split at h
 ·split at h
  ·rename_i c r
   obtain ⟨x, e, h1⟩ := nds.get hc 0 c rfl
   exact ⟨x, _, oK hg e, h, jTp h1⟩
  ·exact h.elim
 ·rename_i n
  split at h
  ·rename_i l' hl
   obtain ⟨rfl, hn⟩ := xJ _ _ _ hl
   have hlen : n ≤ (blk.cells.drop o).length := by
    cases n with
    | zero => simp
    | succ n =>
     obtain ⟨c, e⟩ : ∃ c, l[n]? = some c := ⟨_, List.getElem?_eq_some_iff.2 ⟨by omega, rfl⟩⟩
     obtain ⟨x, e2, _⟩ := nds.get hc n c e
     have := (List.getElem?_eq_some_iff.1 e2).1
     simp; omega
   refine ⟨_, _, jEc hg hlen, h, _, rfl, svs.of (by simp at hlen ⊢; omega) fun i x e => ?_⟩
   rw [List.getElem?_map, Option.map_eq_some_iff] at e
   obtain ⟨c, e1, rfl⟩ := e
   rw [List.getElem?_take] at e1
   split at e1
   ·rename_i hi
    obtain ⟨y, e2, h2⟩ := nds.get hc i c e1
    exact ⟨y, by rw [List.getElem?_take, if_pos hi, List.getElem?_drop]; exact e2, jTp h2⟩
   ·cases e1
  ·exact h.elim
theorem jRc (hr : Rl C W H σ) {n : Option Nat} {s : SV} {a : X} {τ : T} {Q : P1} (hx : sv C W H σ s (a.ev τ)) (h : wLd C H n s Q) : PO C W H σ (xLd n a τ σ) Q := by
 unfold wLd at h
 split at h
 ·rename_i i g off
  obtain ⟨hb, hi, hg, h⟩ := zA h
  have hv := qT hx.2 hi hg
  split at h
  ·rename_i l hl
   obtain ⟨blk, g1, g2, g3, g4⟩ := hr.blk i hb hi (by rw [hl]; trivial)
   rw [hl] at g4
   have e : xLd n a τ σ = ldA σ (W.as i) off n := by simp only [xLd, hv]
   rw [e]
   cases n with
   | none =>
    simp only [ldS, qJ] at h
    split at h
    ·rename_i s hs
     obtain ⟨c, h1, h2⟩ := g4.1.nth _ _ hs
     exact ⟨c, s, oK g1 h1, h, h2⟩
    ·exact h.elim
   | some n =>
    simp only [ldS] at h
    split at h
    ·rename_i l' hl'
     obtain ⟨rfl, hn⟩ := xJ _ _ _ hl'
     rw [zD] at h hn
     have hlen : n ≤ (blk.cells.drop off).length := by rw [(g4.1.drop off).len]; exact hn
     exact ⟨_, _, jEc g1 hlen, h, _, rfl, (g4.1.drop off).take n⟩
    ·exact h.elim
  ·exact h.elim
 ·rename_i i g k off
  obtain ⟨hb, hi, hg, h⟩ := zA h
  have hv := qT hx.2 hi hg
  split at h
  ·rename_i T r m hc
   rw [hc] at hv
   obtain ⟨hk, hv⟩ := hv
   obtain ⟨blk, g1, g2, g3, g4⟩ := hr.blk i hb hi (by rw [hc]; show m ≠ 0; omega)
   rw [hc] at g4
   have e : xLd n a τ σ = ldA σ (W.as i) (k * (C.ct T 0).length + off) n := by simp only [xLd, hv]
   rw [e]
   exact jLy g1 (fun j ty e => (zG.cell g4 hk).2 j ty e) h
  ·rename_i T r m l hc
   rw [hc] at hv
   obtain ⟨hk, hv⟩ := hv
   obtain ⟨blk, g1, g2, g3, g4⟩ := hr.blk i hb hi (by rw [hc]; show m ≠ 0; omega)
   rw [hc] at g4
   obtain ⟨hkm, h⟩ := jM h
   have hkm := Nat.eq_of_beq_eq_true hkm
   have e : xLd n a τ σ = ldA σ (W.as i) (k * (C.ct T 0).length + off) n := by simp only [xLd, hv]
   rw [e]
   have hkm' : m - 1 = k := by omega
   have g5 := g4.2.1
   rw [hkm'] at g5
   cases n with
   | none =>
    simp only [ldS, qJ] at h
    split at h
    ·rename_i s hs
     obtain ⟨c, h1, h2⟩ := g5.nth _ _ hs
     rw [List.getElem?_drop] at h1
     exact ⟨c, s, oK g1 h1, h, h2⟩
    ·exact h.elim
   | some n =>
    simp only [ldS] at h
    split at h
    ·rename_i l' hl'
     obtain ⟨rfl, hn⟩ := xJ _ _ _ hl'
     rw [zD] at h hn
     have g6 := g5.drop off
     rw [List.drop_drop] at g6
     have hlen : n ≤ (blk.cells.drop (k * (C.ct T 0).length + off)).length := by rw [g6.len]; exact hn
     exact ⟨_, _, jEc g1 hlen, h, _, rfl, g6.take n⟩
    ·exact h.elim
  ·exact h.elim
 ·rename_i T r off
  obtain ⟨b, o, blk, hv, h1, h2, h3, h4⟩ := hx
  have e : xLd n a τ σ = ldA σ b (o + off) n := by simp only [xLd, hv]
  rw [e]
  exact jLy h2 h4 h
 ·rename_i p
  obtain ⟨h0, b, o, blk, hv, h1, h2⟩ := hx
  split at h
  ·have e : xLd none a τ σ = ldA σ b o none := by simp only [xLd, hv]
   rw [e]
   exact ⟨_, _, oK (hr.K _ _ h1).2 h2, h h0, rfl, h0⟩
  ·exact h.elim
 ·obtain ⟨z, hv⟩ := hx
  split at h
  ·exact ⟨.i .i64 z, .i .i64 z, by simp only [xLd, hv], h z, rfl⟩
  ·exact h.elim
 ·rename_i l
  obtain ⟨b, o, blk, hv, h1, h2⟩ := hx
  have e : xLd n a τ σ = ldA σ b o n := by simp only [xLd, hv]
  rw [e]
  exact jZy (hr.K _ _ h1).2 h2 h
 ·exact h.elim
theorem jZe (hr : Rl C W H σ) {s : SV} {x : X} {τ : T} {Q : P1} (hx : sv C W H σ s (x.ev τ)) (h : wNc H s Q) : PO C W H σ (xNc x τ) Q := by
 unfold wNc at h
 split at h
 ·obtain ⟨hb, hi, hg, h⟩ := zA h
  have hv := qT hx.2 hi hg
  exact ⟨x.ev τ, _, by simp only [xNc, hv], h, hx⟩
 ·obtain ⟨hb, hi, hg, h⟩ := zA h
  have hv := qT hx.2 hi hg
  split at h
  ·rename_i hc
   rw [hc] at hv
   exact ⟨x.ev τ, _, by simp only [xNc, hv.2], h, hx⟩
  ·rename_i hc
   rw [hc] at hv
   exact ⟨x.ev τ, _, by simp only [xNc, hv.2], h, hx⟩
  ·exact h.elim
 ·have hx' := hx
  obtain ⟨b, o, blk, hv, _⟩ := hx
  exact ⟨x.ev τ, _, by simp only [xNc, hv], h, hx'⟩
 ·have hx' := hx
  obtain ⟨a, c, hv, _⟩ := hx
  exact ⟨x.ev τ, _, by simp only [xNc, hv], h, hx'⟩
 ·have hx' := hx
  obtain ⟨b, o, blk, hv, _⟩ := hx
  exact ⟨x.ev τ, _, by simp only [xNc, hv], h, hx'⟩
 ·exact h.elim
theorem qAj (hr : Rl C W H σ) {off : Nat} {s : SV} {x : X} {τ : T} {Q : P1} (hx : sv C W H σ s (x.ev τ)) (h : wFa H off s Q) : PO C W H σ (xFa off x τ) Q := by
 unfold wFa at h
 split at h
 ·rename_i i g o
  obtain ⟨hb, hi, hg, h⟩ := zA h
  have hv := qT hx.2 hi hg
  exact ⟨.p (W.as i) (o + off), _, by simp only [xFa, hv, jY], h, rfl, hb, hi, by omega, fun _ => rfl⟩
 ·rename_i i g k o
  obtain ⟨hb, hi, hg, h⟩ := zA h
  have hv := qT hx.2 hi hg
  split at h
  ·rename_i T r m hc
   rw [hc] at hv
   exact ⟨_, _, by simp only [xFa, hv.2, jY]; rfl, h, rfl, hb, hi, by omega, fun _ => by show jEo C _ _ _ _ hb.c; rw [hc]; exact ⟨hv.1, by rw [show Nat.add o off = o + off from rfl, Nat.add_assoc]⟩⟩
  ·rename_i T r m l hc
   rw [hc] at hv
   exact ⟨_, _, by simp only [xFa, hv.2, jY]; rfl, h, rfl, hb, hi, by omega, fun _ => by show jEo C _ _ _ _ hb.c; rw [hc]; exact ⟨hv.1, by rw [show Nat.add o off = o + off from rfl, Nat.add_assoc]⟩⟩
  ·exact h.elim
 ·rename_i T r o
  obtain ⟨b, o', blk, hv, h1⟩ := hx
  exact ⟨_, _, by simp only [xFa, hv, jY]; rfl, h, b, o', blk, by rw [show Nat.add o off = o + off from rfl, Nat.add_assoc], h1⟩
 ·obtain ⟨ho, h⟩ := jM h
  cases Nat.eq_of_beq_eq_true ho
  have hx' := hx
  obtain ⟨h0, b, o, blk, hv, h1⟩ := hx
  exact ⟨x.ev τ, _, by simp only [xFa, hv, jY]; rfl, h, hx'⟩
 ·rename_i l
  obtain ⟨b, o, blk, hv, h1, h2⟩ := hx
  refine ⟨.p b (o + off), _, by simp only [xFa, hv, jY], h, b, o + off, blk, rfl, h1, ?_⟩
  rw [zD]
  have := h2.drop off
  have e : (fun m => blk.cells[o + (off + m)]?) = fun m => blk.cells[o + off + m]? := by funext m; rw [Nat.add_assoc]
  rw [e] at this; exact this
 ·exact h.elim
theorem jZs (hr : Rl C W H σ) {s : SV} {x : X} {τ : T} {Q : P1} (hx : sv C W H σ s (x.ev τ)) (h : wLm H s Q) : PO C W H σ (xLm x τ) Q := by
 unfold wLm at h
 split at h
 ·have hv : x.ev τ = .sl0 := hx
  exact ⟨_, _, by simp only [xLm, hv], h, rfl⟩
 ·rename_i i g n sz
  obtain ⟨hb, hi, hg, h⟩ := zA h
  have hv := qT hx.2 hi hg
  have key : hb.c ≠ .dead → x.ev τ = (if n = 0 then .sl0 else .sl (W.as i) 0 n sz) ∨ x.ev τ = .sl (W.as i) 0 n sz := by
   intro hd
   cases hc : hb.c with
   | l l => rw [hc] at hv; exact .inr hv.1
   | r T r m => rw [hc] at hv; exact .inl hv.2.2
   | xs l => rw [hc] at hv; exact .inl hv.2.2
   | rl T r m l => rw [hc] at hv; exact .inl hv.2.2
   | dead => exact absurd hc hd
  have fin : hb.c ≠ .dead → xLm x τ = some (.i .i64 (n : Int)) := by
   intro hd
   rcases key hd with e | e
   ·split at e
    ·rename_i e0; subst e0; simp only [xLm, e]; rfl
    ·simp only [xLm, e]; rfl
   ·simp only [xLm, e]; rfl
  split at h
  ·exact h.elim
  ·rename_i hd
   exact ⟨_, _, fin (fun e => hd e), h, rfl⟩
 ·rename_i T r n
  rcases hx.2 with ⟨hv, rfl⟩ | ⟨b, o, hv⟩
  ·exact ⟨_, _, by simp only [xLm, hv]; rfl, h, rfl⟩
  ·exact ⟨_, _, by simp only [xLm, hv]; rfl, h, rfl⟩
 ·rename_i l
  rcases hx.2 with ⟨hv, rfl⟩ | ⟨b, o, hv, _⟩
  ·exact ⟨_, _, by simp only [xLm, hv]; rfl, h, rfl⟩
  ·exact ⟨_, _, by simp only [xLm, hv]; rfl, h, rfl⟩
 ·obtain ⟨l, hv, rfl⟩ := hx
  exact ⟨.i .i64 (l.length : Int), _, by simp only [xLm, hv, vR, Nat.add_zero]; rfl, h, rfl⟩
 ·rename_i w l
  rcases hx with ⟨hv, rfl⟩ | ⟨b, o, hv, _⟩
  ·exact ⟨_, _, by simp only [xLm, hv]; rfl, h, rfl⟩
  ·exact ⟨_, _, by simp only [xLm, hv]; rfl, h, rfl⟩
 ·exact h.elim
theorem jZt (hC : vQ C) (hr : Rl C W H σ) {sz : Nat} {s t : SV} {x y : X} {τ : T} {Q : P1} (hx : sv C W H σ s (x.ev τ)) (hy : sv C W H σ t (y.ev τ)) (h0 : wIa C H sz s t Q) : PO C W H σ (xIa sz x y τ) Q := by
 obtain ⟨kk, k, hk, h⟩ := jUm hy h0
 clear h0
 have run : ∀ {b o n sz' : Nat}, x.ev τ = .sl b o n sz' → 0 ≤ k → k < (n : Int) → xIa sz x y τ = some (.p b (o + k.toNat * sz)) := by
  intro b o n sz' hv h1 h2
  obtain ⟨m, rfl⟩ := Int.eq_ofNat_of_zero_le h1
  have h3 : Nat.blt m n = true := by simp [Nat.blt_eq]; omega
  have h4 : asN (y.ev τ) = some m := by rw [hk]; rfl
  simp only [xIa, hv, h4, h3, if_true, jY]
  simp
 split at h
 ·rename_i i g n sz'
  obtain ⟨hs, ⟨h1, h2⟩, h3⟩ := jM h
  clear h
  cases Nat.eq_of_beq_eq_true hs
  obtain ⟨hb, hi, hg, h⟩ := zA h3
  have hv := qT hx.2 hi hg
  split at h
  ·rename_i l hc
   rw [hc] at hv
   unfold jYf at h
   split at h
   ·rename_i m
    exact ⟨_, _, run hv.1 h1 h2, h, rfl, hb, hi, by omega, fun _ => by simp⟩
   ·exact h.elim
  ·rename_i T r m hc
   rw [hc] at hv
   obtain ⟨e, h⟩ := jM h
   have e' : sz = (C.ct T 0).length := by rw [Nat.eq_of_beq_eq_true e, qD]
   obtain ⟨hm, _, hv⟩ := hv
   have hn : n ≠ 0 := by omega
   rw [if_neg hn] at hv
   exact ⟨_, _, run hv h1 h2, h, rfl, hb, hi, by omega, fun _ => by show jEo C _ _ _ _ hb.c; rw [hc]; exact ⟨by omega, by rw [e']; simp⟩⟩
  ·rename_i T r m l hc
   rw [hc] at hv
   obtain ⟨e, h⟩ := jM h
   have e' : sz = (C.ct T 0).length := by rw [Nat.eq_of_beq_eq_true e, qD]
   obtain ⟨hm, _, hv⟩ := hv
   have hn : n ≠ 0 := by omega
   rw [if_neg hn] at hv
   exact ⟨_, _, run hv h1 h2, h, rfl, hb, hi, by omega, fun _ => by show jEo C _ _ _ _ hb.c; rw [hc]; exact ⟨by omega, by rw [e']; simp⟩⟩
  ·exact h.elim
 ·rename_i T r n
  obtain ⟨e, ⟨h1, h2⟩, h⟩ := jM h
  have e' : sz = (C.ct T 0).length := by rw [Nat.eq_of_beq_eq_true e, qD]
  rcases hx.2 with ⟨hv, rfl⟩ | ⟨b, o, hv⟩
  ·omega
  ·have ht := hx.1
   rw [hv] at ht
   cases ht with
   | qe => omega
   | q _ _ _ _ _ _ blk hb hg κ hs hp cs hc ht =>
    have hkn : k.toNat < n := by omega
    have hr : tN C T (κ k.toNat) ≤ r := Nat.le_trans (jEv (ρ := fun k => tN C T (κ k)) hkn) hs
    have hpr := hp.cp r (Nat.le_trans (Nat.le_add_right _ _) hr)
    refine ⟨_, _, run hv h1 h2, h hpr, b, o + k.toNat * sz, blk, by simp, hb, hg, hpr, TV.up hp hr fun j ty hj => ?_⟩
    have hj' := (List.getElem?_eq_some_iff.1 hj).1
    rw [hp.len] at hj'
    refine ⟨_, ?_, ht k.toNat j ty hkn hj⟩
    rw [e', Nat.add_assoc]
    exact hc _ (jJf hkn hj')
 ·rename_i l
  obtain ⟨e, ⟨h1, h2⟩, h3⟩ := jM h
  clear h
  cases Nat.eq_of_beq_eq_true e
  obtain ⟨p, hp⟩ : ∃ p, l[k.toNat]? = some p := ⟨_, List.getElem?_eq_some_iff.2 ⟨by omega, rfl⟩⟩
  rcases hx.2 with ⟨hv, rfl⟩ | ⟨b, o, hv, hl⟩
  ·simp at h2; omega
  ·rcases hl with rfl | ⟨blk, hK, hl⟩
   ·simp at h2; omega
   ·exact ⟨_, _, run hv h1 h2, h3 p hp, hx.1 p (List.mem_of_getElem? hp), b, _, blk, rfl, hK, by simpa using hl _ p hp⟩
 ·rename_i n
  obtain ⟨e, ⟨h1, h2⟩, h3⟩ := jM h
  obtain ⟨l, hv, rfl⟩ := hx
  obtain ⟨m, rfl⟩ := Int.eq_ofNat_of_zero_le h1
  have h4 : asN (y.ev τ) = some m := by rw [hk]; rfl
  obtain ⟨z, hz⟩ : ∃ z, l[m]? = some z := ⟨_, List.getElem?_eq_some_iff.2 ⟨by omega, rfl⟩⟩
  exact ⟨.fq z, _, by simp only [xIa, hv, h4, e, if_true, vT, hz], h3, z, rfl⟩
 ·rename_i w l
  obtain ⟨e, ⟨h1, h2⟩, h3⟩ := jM h
  cases Nat.eq_of_beq_eq_true e
  obtain ⟨p, hp⟩ : ∃ p, l[k.toNat]? = some p := ⟨_, List.getElem?_eq_some_iff.2 ⟨by omega, rfl⟩⟩
  rcases hx with ⟨hv, rfl⟩ | ⟨b, o, hv, hl⟩
  ·simp at h2; omega
  ·rcases hl with rfl | ⟨blk, hK, hl⟩
   ·simp at h2; omega
   ·refine ⟨_, _, run hv h1 h2, h3 p hp, b, _, blk, rfl, hK, ?_⟩
    have := (hl.get _ p hp).2
    have e : (fun m => blk.cells[o + (k.toNat * sz + m)]?) = fun m => blk.cells[o + k.toNat * sz + m]? := by funext m; rw [Nat.add_assoc]
    rw [e] at this; exact this
 ·exact h.elim
end
end
end Go.Proofs.YthfmepmchaofjaaGreat.Ev
end
section
set_option linter.all false
namespace Go.Proofs.YthfmepmchaofjaaGreat.Ev
noncomputable section
open Go
def OO (C : Cx) (W : Wd) (H : Hp) (σ : Mem) (r : Option (AV × Mem)) (Q : QO) : Prop := ∃ (v : AV) (σ' : Mem) (s : SV) (W' : Wd) (H' : Hp) (t : Tch), r = some (v, σ') ∧ Q s H' t ∧ Rl C W' H' σ' ∧ Mv W H σ W' H' σ' ∧ sv C W' H' σ' s v ∧ Tc t W H σ W' H' σ'
section
variable {C : Cx} {W W' : Wd} {H H' : Hp} {σ σ' : Mem}
theorem PO.oo (hr : Rl C W H σ) {r : Option AV} {Q : QO} (h : PO C W H σ r fun v => Q v H t0) : OO C W H σ (eP σ r) Q := by
 obtain ⟨v, s, rfl, h1, h2⟩ := h
 exact ⟨v, σ, s, W, H, t0, rfl, h1, hr, Mv.refl, h2, Tc.refl _ _ _ _⟩
theorem jCa : ∀ {n : Nat} {ρ : Nat → Nat}, (∀ k, k < n → ρ k = 0) → uQ ρ n = 0 := by
 intro n
 induction n with
 | zero => intro _ _; rfl
 | succ n ih => intro ρ h; show ρ 0 + uQ (fun k => ρ (k + 1)) n = 0; rw [h 0 (Nat.succ_pos _), ih fun k hk => h (k + 1) (by omega)]
theorem jLn (hC : vQ C) (hK : KOK W σ) {t : Ty} {s : SV} {v : AV} (hx : sv C W H σ s v) (h : jIl C t s) : TV C W σ t v := by
 unfold jIl at h
 split at h
 ·obtain ⟨e, _⟩ := jM h
  cases jEp e; cases hx; exact .i _ _
 ·cases hx; exact .b _
 ·obtain ⟨rfl, h0⟩ := hx; exact .s _ _ _ h h0
 ·cases hx; exact .q0 _ _
 ·obtain ⟨e, h⟩ := jM h
  have e' := Nat.eq_of_beq_eq_true e
  exact hx.1.rank _ ⟨e'.symm, h⟩
 ·rename_i T r l
  obtain ⟨e, h1, h2⟩ := jM h
  obtain ⟨mm, hl⟩ : ∃ mm, C.ct T 0 = [.s mm] := by
   revert e
   cases hct : C.ct T 0 with
   | nil => intro e; simp [mO] at e
   | cons a m => cases a <;> cases m <;> intro e <;> first | exact ⟨_, rfl⟩ | simp [mO] at e
  obtain ⟨hcn, hv⟩ := hx
  rcases hv with ⟨rfl, _⟩ | ⟨b, o, rfl, hv⟩
  ·exact .q0 _ _
  ·have hl1 : (C.ct T 0).length = 1 := by rw [hl]; rfl
   rcases hv with rfl | ⟨blk, hKb, hv⟩
   ·have := TV.qe (C := C) (W := W) (σ := σ) T r b o
    rw [hl1] at this; exact this
   ·have := TV.q (C := C) (W := W) (σ := σ) T r b o l.length h2.1 blk (.inr ⟨e, by rw [hKb]; rfl⟩) (hK _ _ hKb) (fun _ _ => 0) (by rw [jCa fun k _ => by show C.co T + _ = 0; rw [h1, jCa fun _ _ => rfl]]; exact Nat.zero_le _) (cpl.of hC T) (fun m => (blk.cells[o + m]?).getD .ni) ?_ ?_
    ·rw [hl1] at this; exact this
    ·intro m hm
     rw [hl1, Nat.mul_one] at hm
     rw [hv m _ (List.getElem?_eq_getElem hm)]; rfl
    ·intro k j ty hk hj
     rw [h1, Nat.add_zero, hl] at hj
     cases j with
     | succ j => simp at hj
     | zero =>
      simp at hj; subst hj
      rw [hl1, Nat.mul_one, Nat.add_zero]
      show TV C W σ (.s mm) ((blk.cells[o + k]?).getD .ni)
      rw [hv k _ (List.getElem?_eq_getElem hk)]
      exact .s _ _ _ (by have := h2.2 _ (List.getElem_mem hk); rw [hl] at this; exact this) (hcn _ (List.getElem_mem hk))
 ·exact h.elim
theorem iM (hC : vQ C) (hK : KOK W σ) : ∀ {t : List Ty} {s : List SV} {v : List AV}, svs C W H σ s v → jGo C t s → v.length = t.length ∧ ∀ (j : Nat) (ty : Ty), t[j]? = some ty → ∃ c : AV, v[j]? = some c ∧ TV C W σ ty c
 | [], [], v, h, _ => by simp only [svs] at h; subst h; simp
 | [], x :: s, v, h, k => k.elim
 | t :: r, [], v, h, k => k.elim
 | t :: r, x :: s, v, h, k => by
  obtain ⟨y, l, rfl, h1, h2⟩ := h
  obtain ⟨h3, h4⟩ := iM hC hK h2 k.2
  refine ⟨by simp [h3], fun j ty e => ?_⟩
  cases j with
  | zero => simp at e; subst e; exact ⟨y, rfl, jLn hC hK h1 k.1⟩
  | succ j => simpa using h4 j ty (by simpa using e)
theorem jFs (hC : vQ C) (hK : KOK W σ) {T : Nat} : ∀ {j : Nat} {s : List SV} {v : List AV} {Q : Nat → Prop}, svs C W H σ s v → jLs C T j s Q → ∃ (κ : Nat → Nat), Q (uQ κ v.length) ∧ ∀ (i : Nat) (c : AV), v[i]? = some c → ∃ ty, (C.ct T (C.co T + κ i))[j + i]? = some ty ∧ TV C W σ ty c
 | j, [], v, Q, h, k => by simp only [svs] at h; subst h; exact ⟨fun _ => 0, k, fun i c e => by simp at e⟩
 | j, x :: s, v, Q, h, k => by
  obtain ⟨y, l, rfl, h1, h2⟩ := h
  obtain ⟨x0, k1, k2⟩ := k
  obtain ⟨κ, a1, a2⟩ := jFs hC hK h2 k2
  split at k1
  ·rename_i t ht
   rw [qJ] at ht
   refine ⟨fun i => match i with | 0 => x0 | i + 1 => κ i, a1, fun i c e => ?_⟩
   cases i with
   | zero => simp at e; subst e; exact ⟨t, ht, jLn hC hK h1 k1⟩
   | succ i =>
    obtain ⟨ty, b1, b2⟩ := a2 i c (by simpa using e)
    exact ⟨ty, by rw [show j + (i + 1) = Nat.succ j + i by omega]; exact b1, b2⟩
  ·exact k1.elim
theorem nY (hC : vQ C) (hK : KOK W σ) {T : Nat} : ∀ {n : Nat} {s : List SV} {v : List AV} {Q : Nat → Prop}, svs C W H σ s v → kO C T n s Q → ∃ R, Q R ∧ zG C W σ T R n v
 | 0, s, v, Q, h, k => by
  unfold kO at k
  split at k
  ·simp only [svs] at h; subst h; exact ⟨0, k, zG.nil (cpl.of hC T)⟩
  ·exact k.elim
 | n + 1, s, v, Q, h, k => by
  unfold kO at k
  split at k
  ·rename_i row hr
   obtain ⟨rfl, hn⟩ := xJ _ _ _ hr
   rw [qD] at k hn
   rw [zD] at k
   have hlen := h.len
   have hv : (v.take (C.ct T 0).length).length = (C.ct T 0).length := by rw [List.length_take]; omega
   obtain ⟨κ, k1, k2⟩ := jFs hC hK (h.take (C.ct T 0).length) k
   obtain ⟨R, h3, h4⟩ := nY hC hK (h.drop (C.ct T 0).length) k1
   rw [hv] at h3
   refine ⟨_, h3, ?_⟩
   have one : zG C W σ T (C.co T + uQ κ (C.ct T 0).length) 1 (v.take (C.ct T 0).length) := ⟨fun _ => κ, by show tN C T κ + 0 ≤ _; rw [Nat.add_zero]; exact Nat.le_refl _, cpl.of hC T, by rw [hv, Nat.one_mul], fun k j ty hk e => by
    obtain rfl : k = 0 := by omega
    have hj := (List.getElem?_eq_some_iff.1 e).1
    rw [hC.len T _ 0] at hj
    obtain ⟨c, hc⟩ : ∃ c, (v.take (C.ct T 0).length)[j]? = some c := ⟨_, List.getElem?_eq_some_iff.2 ⟨by rw [hv]; exact hj, rfl⟩⟩
    obtain ⟨ty', e1, e2⟩ := k2 j c hc
    rw [Nat.zero_add] at e1
    rw [e] at e1; cases e1
    exact ⟨c, by rw [Nat.zero_mul, Nat.zero_add]; exact hc, e2⟩⟩
   have := one.app h4
   rw [List.take_append_drop, Nat.add_comm 1 n] at this
   exact this
  ·exact k.elim
theorem TV.one {ty : Ty} {v : AV} (h : TV C W σ ty v) : v.one = true := by cases h <;> rfl
theorem zG.one {T r n : Nat} {cs : List AV} (h : zG C W σ T r n cs) : jT cs = true := by
 obtain ⟨κ, _, h2, h3, h4⟩ := h
 rw [gD]
 intro i x e
 have hi := (List.getElem?_eq_some_iff.1 e).1
 rw [h3] at hi
 have hL : 0 < (C.ct T 0).length := by
  rcases Nat.eq_zero_or_pos (C.ct T 0).length with h0 | h0
  ·rw [h0] at hi; simp at hi
  ·exact h0
 have hk : i / (C.ct T 0).length < n := Nat.div_lt_of_lt_mul (by rw [Nat.mul_comm]; exact hi)
 have hj : i % (C.ct T 0).length < (C.ct T (C.co T + κ (i / (C.ct T 0).length) (i % (C.ct T 0).length))).length := by rw [h2.len (C.co T + κ (i / (C.ct T 0).length) (i % (C.ct T 0).length))]; exact Nat.mod_lt _ hL
 obtain ⟨ty, hty⟩ : ∃ ty, (C.ct T (C.co T + κ (i / (C.ct T 0).length) (i % (C.ct T 0).length)))[i % (C.ct T 0).length]? = some ty := ⟨_, List.getElem?_eq_some_iff.2 ⟨hj, rfl⟩⟩
 obtain ⟨c, e1, e2⟩ := h4 _ _ ty hk hty
 rw [Nat.mul_comm, Nat.div_add_mod] at e1
 rw [e] at e1; cases e1
 exact e2.one
theorem jIm {n : Nat} {vs l r : List SV} {us m : List AV} (h : zY n vs l = some r) (hv : svs C W H σ vs us) (hl : svs C W H σ l m) : ∃ r', zY n us m = some r' ∧ svs C W H σ r r' := by
 obtain ⟨_, hle⟩ := fG _ _ _ _ h
 obtain ⟨r', hr'⟩ := gI n us m (by rw [hv.len, hl.len]; exact hle)
 refine ⟨r', hr', svs.of (by rw [yU hr', yU h, hl.len]) fun i x e => ?_⟩
 rw [uO h] at e
 rw [uO hr', hv.len]
 split at e
 ·rename_i hi; rw [if_pos hi]; exact hv.nth _ x e
 ·rename_i hi; rw [if_neg hi]; exact hl.nth _ x e
theorem iY {n : Nat} {vs l r : List SV} (h : zY n vs l = some r) (hv : qF vs = true) (hl : qF l = true) : qF r = true := by
 rw [kR] at *
 intro i x e
 rw [uO h] at e
 split at e
 ·exact hv _ x e
 ·exact hl _ x e
theorem jCj {z : List AV} (h : kF z = true) (k : jT z = true) : qF (ofAs z) = true := by
 induction z with
 | nil => rfl
 | cons a z ih =>
  simp only [kF, jT, Bool.and_eq_true] at h k
  simp only [ofAs, qF, ih h.2 k.2, Bool.and_true]
  have := k.1
  cases a <;> simp [okA] at h <;> first | rfl | simp [AV.one] at this
theorem iG {E : Env} {τ : T} (he : zJ C W H σ E τ) : ∀ {ps : List (Nat × Nat × X)} {z : List SV} {m : List AV} {Q : List SV → Prop}, svs C W H σ z m → mN E ps z Q → ∃ l r, wC τ ps m = some r ∧ Q l ∧ svs C W H σ l r ∧ (qF z = true → qF l = true) ∧ l.length = z.length
 | [], z, m, Q, hz, h => ⟨z, m, rfl, h, hz, fun q => q, rfl⟩
 | (off, n, x) :: ps, z, m, Q, hz, h => by
  obtain ⟨s, h1, hs⟩ := qV he (x := x) (Q := fun v => req (zI n (xZ v) && qF (xZ v)) (match zY off (xZ v) z with | some z => mN E ps z Q | none => False)) h
  obtain ⟨e, h1⟩ := jM h1
  simp only [Bool.and_eq_true] at e
  split at h1
  ·rename_i z' hz'
   have hc := hs.cells
   obtain ⟨m', hm', hz2⟩ := jIm hz' hc hz
   obtain ⟨l, r, g1, g2, g3, g4, g5⟩ := iG he hz2 h1
   have hsz : zI n (x.ev τ).cells = true := by
    have := yF _ _ e.1
    rw [← hc.len] at this
    rw [← this]; exact iT _
   have hone := hc.ones e.2
   refine ⟨l, r, ?_, g2, g3, fun q => g4 (iY hz' e.2 q), by rw [g5, yU hz']⟩
   simp only [wC, hsz, hone, Bool.and_self, if_true, hm', g1]
  ·exact h1.elim
theorem jEk (hr : Rl C W H σ) {e : Nat} {l : List SV} {cs : List AV} (hl : svs C W H σ l cs) (h1 : qF l = true) {k : Nat → AV} {ks : Nat → SV} {Q : QO} (h : fX H e (.l l) fun i H t => Q (ks i) H t)
  (hk : ∀ W' H' σ', W'.as H.length = σ.nx → H'[H.length]? = some ⟨e, 0, .l l⟩ → sv C W' H' σ' (ks H.length) (k σ.nx)) : OO C W H σ (kL σ e true cs k) Q := by
 unfold fX at h
 rw [qD] at h
 rw [eA (hl.ones h1)]
 obtain ⟨W', g1, g2, g3, g4⟩ := jSl (σ' := ⟨Tr.put σ.t σ.nx (some ⟨e, true, cs⟩), σ.nx + 1, σ.it⟩) hr (e := e) (c := .l l) (blk := ⟨e, true, cs⟩) trivial rfl rfl (fun b => vW _ _ _ _) rfl (fun W' on => ⟨svs.on on _ _ hl, h1⟩)
 exact ⟨_, _, _, W', _, _, rfl, h, g1, g2, hk _ _ _ g4 (by simp), g3⟩
theorem jUf (hr : Rl C W H σ) {e : Nat} {z : List AV} {Q : QO} (h : req (kF z && jT z) (fX H e (.l (ofAs z)) fun i H t => Q (.tp i 0 0) H t)) : OO C W H σ (kL σ e true z fun b => .p b 0) Q := by
 obtain ⟨hz, h⟩ := jM h
 simp only [Bool.and_eq_true] at hz
 exact jEk hr (svs.ofAs z hz.1) (jCj hz.1 hz.2) (ks := fun i => .tp i 0 0) h fun W' H' σ' e1 e2 => ⟨rfl, _, e2, Nat.le_refl _, fun _ => by rw [e1]⟩
theorem jZq (hr : Rl C W H σ) {e : Nat} {s : SV} {x : X} {τ : T} (hx : sv C W H σ s (x.ev τ)) {Q : QO} (h : req (qF (xZ s)) (fX H e (.l (xZ s)) fun i H t => Q (.tp i 0 0) H t)) : OO C W H σ (eBx e (x.ev τ).cells σ) Q := by
 obtain ⟨hz, h⟩ := jM h
 have : eBx e (x.ev τ).cells σ = kL σ e true (x.ev τ).cells fun b => .p b 0 := by simp only [eBx, hx.cells.ones hz, if_true]
 rw [this]
 exact jEk hr hx.cells hz (ks := fun i => .tp i 0 0) h fun W' H' σ' e1 e2 => ⟨rfl, _, e2, Nat.le_refl _, fun _ => by rw [e1]⟩
theorem jQe (hr : Rl C W H σ) {E : Env} {τ : T} (he : zJ C W H σ E τ) {e sz len : Nat} {z : List AV} {ps : List (Nat × Nat × X)} {Q : QO}
  (h : req (kF z && jT z && zI (Nat.mul len sz) z && Nat.blt 0 len) (mN E ps (ofAs z) fun l => fX H e (.l l) fun i H t => Q (.ts i 0 len sz) H t)) : OO C W H σ (eBs e sz len (wC τ ps z) σ) Q := by
 obtain ⟨hz, h⟩ := jM h
 simp only [Bool.and_eq_true] at hz
 obtain ⟨⟨⟨z1, z2⟩, z3⟩, z4⟩ := hz
 obtain ⟨l, r, g1, g2, g3, g4, g5⟩ := iG he (svs.ofAs z z1) h
 rw [g1]
 have hlen : l.length = len * sz := by
  rw [g5, ← (svs.ofAs (C := C) (W := W) (H := H) (σ := σ) z z1).len]; exact yF _ _ z3
 have hpos : 0 < len := by simpa [Nat.blt_eq] using z4
 exact jEk hr g3 (g4 (jCj z1 z2)) (k := fun b => .sl b 0 len sz) (ks := fun i => .ts i 0 len sz) g2 fun W' H' σ' e1 e2 => ⟨rfl, _, e2, Nat.le_refl _, fun _ => ⟨by rw [e1], hlen, hpos⟩⟩
theorem jYx (hr : Rl C W H σ) {E : Env} {τ : T} (he : zJ C W H σ E τ) {z : List AV} {ps : List (Nat × Nat × X)} {Q : QO}
  (h : req (kF z) (mN E ps (ofAs z) fun l => Q (.agg l) H t0)) : OO C W H σ (eP σ (xBd z ps τ)) Q := by
 obtain ⟨hz, h⟩ := jM h
 obtain ⟨l, r, g1, g2, g3, _, _⟩ := iG he (svs.ofAs z hz) h
 exact PO.oo hr ⟨.agg r, .agg l, by simp only [xBd, g1], g2, r, rfl, g3⟩
theorem qBj (hr : Rl C W H σ) {a : Nat} (hA : W.A a) {blk blk' : zZ} (hblk : σ.t.get a = some blk) (hs : Shp blk blk')
  (hget : ∀ b, σ'.t.get b = if b = a then some blk' else σ.t.get b) (hnx : σ'.nx = σ.nx) : Rl C W H σ' ∧ Mv W H σ W H σ' ∧ Tc ⟨true, []⟩ W H σ W H σ' := by
 have oldH : ∀ (j : Nat) (x : HB), H[j]? = some x → qB x.c → σ'.t.get (W.as j) = σ.t.get (W.as j) := fun j x hx hlx => by
  rw [hget, if_neg]; intro e; exact (hr.nA j x hx hlx).1 (by rw [e]; exact hA)
 have go : Go' W σ W σ' := by
  refine ⟨fun _ h => h, fun _ _ h => h, fun b hb x hx => ?_, fun b x hx hg => ?_⟩
  ·by_cases e : b = a
   ·subst e; rw [hblk] at hx; cases hx; exact ⟨blk', by rw [hget, if_pos rfl], hs⟩
   ·exact ⟨x, by rw [hget, if_neg e]; exact hx, Shp.rfl' x⟩
  ·rw [hget, if_neg]; exact hg
   rintro rfl; rw [(hr.A b hA).2.2] at hx; cases hx
 have on : On C W H σ W H σ' := ⟨go, vZ.refl _ _, hr.kok⟩
 refine ⟨⟨hr.inj, fun i hb hi hl => ?_, fun i hb hi hl => by rw [hnx]; exact hr.lt i hb hi hl, hr.nA, fun b hb => ?_, fun b x hx => ?_⟩, ⟨go, vZ.refl _ _, by omega, fun b _ h1 _ => ?_, fun _ _ q => .inl q, fun _ _ q => .inl q, fun _ _ q => q⟩, ?_⟩
 ·obtain ⟨b0, g1, g2, g3, g4⟩ := hr.blk i hb hi hl
  exact ⟨b0, by rw [oldH i hb hi hl]; exact g1, g2, g3, g4.on on⟩
 ·obtain ⟨g1, ⟨x, g2⟩, g3⟩ := hr.A b hb
  obtain ⟨x', hx', _⟩ := go.sh b hb x g2
  exact ⟨by omega, ⟨x', hx'⟩, g3⟩
 ·obtain ⟨g1, g2⟩ := hr.K b x hx
  exact ⟨by omega, go.kk b x hx g2⟩
 ·rw [hget, if_neg]; rintro rfl; exact h1 hA
 ·intro κ hκ b
  refine ⟨Iff.rfl, fun hk => ?_⟩
  cases κ with
  | h i => obtain ⟨x, hx, hlx, rfl⟩ := hk; exact oldH i x hx hlx
  | a => cases hκ
  | c => cases hκ
theorem jRy {b o : Nat} {vs cs : List AV} {blk : zZ} (hg : σ.t.get b = some blk) (hp : zY o vs blk.cells = some cs) : σ.store b o vs = some ⟨Tr.put σ.t b (some ⟨blk.elem, blk.plain, cs⟩), σ.nx, σ.it⟩ := by
 simp only [Mem.store, hg, hp]
theorem zG.put (hC : vQ C) {T R m off n k : Nat} {cs vs r : List AV} (h : zG C W σ T R m cs) (hk : k < m) (hn : n ≤ ((C.ct T 0).drop off).length) (hvl : vs.length = n) (hv : ∀ (j : Nat) (ty : Ty), (((C.ct T 0).drop off).take n)[j]? = some ty → ∃ c : AV, vs[j]? = some c ∧ TV C W σ ty c)
  (hp : zY (k * (C.ct T 0).length + off) vs cs = some r) : zG C W σ T R m r := by
 obtain ⟨κ, a1, a2, a3, a4⟩ := h
 refine ⟨κ, a1, a2, by rw [yU hp, a3], fun a j ty ha e => ?_⟩
 have hj := (List.getElem?_eq_some_iff.1 e).1
 rw [a2.len] at hj
 rw [uO hp]
 simp at hn
 by_cases q : k * (C.ct T 0).length + off ≤ a * (C.ct T 0).length + j ∧ a * (C.ct T 0).length + j < k * (C.ct T 0).length + off + vs.length
 ·rw [if_pos q]
  obtain ⟨d, hd⟩ : ∃ d, a * (C.ct T 0).length + j = k * (C.ct T 0).length + (off + d) := ⟨a * (C.ct T 0).length + j - (k * (C.ct T 0).length + off), by omega⟩
  have hdn : d < n := by omega
  obtain ⟨rfl, rfl⟩ := jUq hj (show off + d < (C.ct T 0).length by omega) hd
  obtain ⟨t0, ht0⟩ : ∃ t0, (C.ct T 0)[off + d]? = some t0 := ⟨_, List.getElem?_eq_some_iff.2 ⟨hj, rfl⟩⟩
  obtain ⟨c, h1, h2⟩ := hv d t0 (by rw [List.getElem?_take, if_pos hdn, List.getElem?_drop]; exact ht0)
  exact ⟨c, by rw [show a * (C.ct T 0).length + (off + d) - (a * (C.ct T 0).length + off) = d by omega]; exact h1, h2.rank ty (hC.sub _ _ _ _ _ _ (Nat.zero_le _) ht0 e)⟩
 ·rw [if_neg q]; exact a4 a j ty ha e
theorem TV.shape {ty : Ty} {c c' : AV} (hf : jBz ty = true) (h : TV C W σ ty c) (h' : TV C W σ ty c') : ShC c c' := by
 cases h <;> cases h' <;> first | (simp [jBz] at hf; done) | skip
 ·exact .inr (.inl ⟨_, _, _, rfl, rfl⟩)
 ·exact .inr (.inr (.inl ⟨_, _, rfl, rfl⟩))
 ·rename_i h1 h2 _ _ h3 h4; simp only [jBz] at hf; exact .inr (.inr (.inr ⟨_, _, _, _, rfl, rfl, by rw [Nat.eq_of_beq_eq_true hf] at h4; exact h4, by assumption⟩))
theorem jAb : ∀ {l : List Ty}, nQ l = true → ∀ (j : Nat) (ty : Ty), l[j]? = some ty → jBz ty = true
 | [], _, j, ty, e => by simp at e
 | t :: r, h, j, ty, e => by
  simp only [nQ, Bool.and_eq_true] at h
  cases j with
  | zero => simp at e; subst e; exact h.1
  | succ j => exact jAb h.2 j ty (by simpa using e)
theorem qBi (hC : vQ C) (hr : Rl C W H σ) {n : Nat} {s u : SV} {a x : X} {τ : T} (ha : sv C W H σ s (a.ev τ)) (hx : sv C W H σ u (x.ev τ)) {Q : QO} (h0 : wSt C H n s u fun H t => Q vH H t) : OO C W H σ (eSt n a x τ σ) Q := by
 unfold wSt at h0
 obtain ⟨e, h⟩ := jM h0
 clear h0
 simp only [Bool.and_eq_true] at e
 have hc := hx.cells
 have hlen : (x.ev τ).cells.length = n := by rw [hc.len]; exact yF _ _ e.1
 have hsz : zI n (x.ev τ).cells = true := by rw [← hlen]; exact iT _
 have hone := hc.ones e.2
 have run : ∀ {b o : Nat} {blk : zZ} {cs : List AV}, a.ev τ = .p b o → σ.t.get b = some blk → zY o (x.ev τ).cells blk.cells = some cs → eSt n a x τ σ = some (yX, ⟨Tr.put σ.t b (some ⟨blk.elem, blk.plain, cs⟩), σ.nx, σ.it⟩) := by
  intro b o blk cs e1 e2 e3
  simp only [eSt, e1, jZh, hsz, hone, Bool.and_self, if_true, jRy e2 e3]
 split at h
 ·rename_i i g off
  obtain ⟨hb, hi, hg, h2⟩ := zA h
  have hv := qT ha.2 hi hg
  split at h2
  ·rename_i l hl
   have hlive : qB hb.c := by rw [hl]; trivial
   obtain ⟨blk, g1, g2, g3, g4⟩ := hr.blk i hb hi hlive
   rw [hl] at g4
   split at h2
   ·rename_i l' hl'
    obtain ⟨cs, hp, hcs⟩ := jIm hl' hc g4.1
    have hone' := iY hl' e.2 g4.2
    obtain ⟨k1, k2, k3⟩ := jDy (σ' := ⟨Tr.put σ.t (W.as i) (some ⟨blk.elem, blk.plain, cs⟩), σ.nx, σ.it⟩) (hb' := ⟨hb.e, hb.g, .l l'⟩) hr hi hlive rfl rfl (by rw [hl]; exact (yU hl').symm) g1 rfl rfl (fun b => vW _ _ _ _) rfl (fun on => ⟨svs.on on _ _ hcs, hone'⟩) (blk' := ⟨blk.elem, blk.plain, cs⟩)
    exact ⟨_, _, vH, W, _, _, run hv g1 hp, h2, k1, k2, ⟨[], rfl, rfl⟩, k3⟩
   ·exact h2.elim
  ·exact h2.elim
 ·rename_i i g k off
  obtain ⟨hb, hi, hg, h2⟩ := zA h
  have hv := qT ha.2 hi hg
  split at h2
  ·rename_i T r m hcc
   rw [hcc] at hv
   obtain ⟨hkm, hv⟩ := hv
   have hlive : qB hb.c := by rw [hcc]; show m ≠ 0; omega
   obtain ⟨blk, g1, g2, g3, g4⟩ := hr.blk i hb hi hlive
   rw [hcc] at g4
   split at h2
   ·rename_i l hl
    obtain ⟨rfl, hn⟩ := xJ _ _ _ hl
    rw [zD] at h2 hn
    obtain ⟨hoff, h2⟩ := jM h2
    have hoff := Nat.le_of_ble_eq_true hoff
    rw [qD] at hoff
    obtain ⟨f1, f2⟩ := iM hC hr.kok hc h2.1
    obtain ⟨cs, hp⟩ := gI (k * (C.ct T 0).length + off) (x.ev τ).cells blk.cells (by
     rw [zG.len g4, hlen]
     simp at hn
     have : (k + 1) * (C.ct T 0).length ≤ m * (C.ct T 0).length := Nat.mul_le_mul_right _ hkm
     rw [Nat.add_mul, Nat.one_mul] at this
     have hpos := hC.pos T 0
     omega)
    have hrows' := zG.put hC g4 hkm hn hlen f2 hp
    obtain ⟨k1, k2, k3⟩ := jDy (σ' := ⟨Tr.put σ.t (W.as i) (some ⟨blk.elem, blk.plain, cs⟩), σ.nx, σ.it⟩) (hb' := hb) hr hi hlive rfl rfl (zE.refl _) g1 rfl rfl (fun b => vW _ _ _ _) rfl (fun on => by
     rw [hcc]
     exact hrows'.go on.go on.k) (blk' := ⟨blk.elem, blk.plain, cs⟩)
    rw [jBn _ _ _ hi] at k1 k2 k3
    exact ⟨_, _, vH, W, _, _, run hv g1 hp, h2.2, k1, k2, ⟨[], rfl, rfl⟩, k3⟩
   ·exact h2.elim
  ·exact h2.elim
 ·rename_i T r off
  obtain ⟨b, o, blk, hv, p1, p2, p3, p4⟩ := ha
  split at h
  ·rename_i l hl
   obtain ⟨rfl, hn⟩ := xJ _ _ _ hl
   rw [zD] at h hn
   obtain ⟨fe, f0, h2⟩ := jM h
   simp only [Bool.and_eq_true, Bool.not_eq_true'] at fe
   obtain ⟨fe, hoff⟩ := fe
   have hoff := Nat.le_of_ble_eq_true hoff
   rw [qD] at hoff
   obtain ⟨f1, f2⟩ := iM hC hr.kok hc f0
   have hA : W.A b := by
    rcases p1 with p1 | ⟨p1, _⟩
    ·exact p1
    ·rw [hC.str T 0 r, fe.2] at p1; cases p1
   simp at hn
   have hpos := hC.pos T r
   have hlr := hC.len T r 0
   obtain ⟨cs, hp⟩ := gI (o + off) (x.ev τ).cells blk.cells (by
    obtain ⟨ty, hty⟩ : ∃ ty, (C.ct T r)[(C.ct T 0).length - 1]? = some ty := ⟨_, List.getElem?_eq_some_iff.2 ⟨by omega, rfl⟩⟩
    obtain ⟨c, e1, _⟩ := p4 _ ty hty
    have := (List.getElem?_eq_some_iff.1 e1).1
    rw [hlen]; omega)
   obtain ⟨k1, k2, k3⟩ := qBj (σ' := ⟨Tr.put σ.t b (some ⟨blk.elem, blk.plain, cs⟩), σ.nx, σ.it⟩) hr hA p2 (blk' := ⟨blk.elem, blk.plain, cs⟩) ⟨yU hp, rfl, rfl, fun m c e1 => by
    show ∃ c', cs[m]? = some c' ∧ _
    rw [uO hp]
    split
    ·rename_i hm
     rw [hlen] at hm
     obtain ⟨ty, hty⟩ : ∃ ty, (C.ct T r)[m - o]? = some ty := ⟨_, List.getElem?_eq_some_iff.2 ⟨by omega, rfl⟩⟩
     have hty2 : ((List.drop off (C.ct T r)).take n)[m - (o + off)]? = some ty := by
      rw [List.getElem?_take, if_pos (by omega), List.getElem?_drop, show off + (m - (o + off)) = m - o by omega]; exact hty
     obtain ⟨c', e2, t2⟩ := f2 _ ty hty2
     obtain ⟨c0, e3, t3⟩ := p4 _ ty hty
     rw [show o + (m - o) = m by omega, e1] at e3; cases e3
     exact ⟨c', e2, t3.shape (jAb fe.1 _ _ hty2) t2⟩
    ·exact ⟨c, e1, .inl rfl⟩⟩ (fun b => vW _ _ _ _) rfl
   exact ⟨_, _, vH, W, _, _, run hv p2 hp, h2, k1, k2, ⟨[], rfl, rfl⟩, k3⟩
  ·exact h.elim
 ·exact h.elim
end
end
end Go.Proofs.YthfmepmchaofjaaGreat.Ev
end
section
set_option linter.all false
namespace Go.Proofs.YthfmepmchaofjaaGreat.Ev
noncomputable section
open Go
section
variable {C : Cx} {W W' : Wd} {H H' : Hp} {σ σ' : Mem}
theorem kI.sub {l l' : List (Nat × Nat)} (h : kI l) (k : ∀ p, p ∈ l' → p ∈ l) : kI l' := fun p hp => h p (k p hp)
theorem jSs {sz b o n n0 p q : Nat} {x : X} {lo hi : Option X} {τ : T} (hv : x.ev τ = .sl b o n sz) (hb : vP n (X.evO τ lo) (X.evO τ hi) = some (p, q)) (hpq : p ≤ q) :
  ∃ b' o', xSl sz x lo hi τ = some (.sl b' o' (q - p) sz) ∧ (p < q → b' = b ∧ o' = o + p * sz) := by
 have e0 : Nat.beq sz sz = true := by simp
 simp only [xSl, hv, e0, if_true, hb, fB, yI]
 by_cases e : p = q
 ·subst e
  by_cases e1 : p = 0
  ·exact ⟨b, o, by simp [e1], fun h => absurd h (Nat.lt_irrefl _)⟩
  ·exact ⟨0, 0, by simp [e1], fun h => absurd h (Nat.lt_irrefl _)⟩
 ·exact ⟨b, o + p * sz, by simp [e, jY], fun _ => ⟨rfl, rfl⟩⟩
theorem jDb {sz p q : Nat} {x : X} {lo hi : Option X} {τ : T} (hv : x.ev τ = .sl0) (hb : vP 0 (X.evO τ lo) (X.evO τ hi) = some (p, q)) : xSl sz x lo hi τ = some .sl0 := by
 simp only [xSl, hv, hb]
theorem XV.cut {l : List (Nat × Nat)} {p q : Nat} {x : X} {lo hi : Option X} {τ : T} (h : XV W l (x.ev τ)) (hb : vP l.length (X.evO τ lo) (X.evO τ hi) = some (p, q)) (hpq : p ≤ q) (hq : q ≤ l.length) :
  ∃ v, xSl 1 x lo hi τ = some v ∧ XV W ((l.drop p).take (q - p)) v := by
 obtain ⟨h0, h⟩ := h
 have h0' : kI ((l.drop p).take (q - p)) := h0.sub fun a ha => List.mem_of_mem_drop (List.mem_of_mem_take ha)
 rcases h with ⟨hv, rfl⟩ | ⟨b, o, hv, h⟩
 ·exact ⟨_, jDb hv hb, by simp [kI], .inl ⟨rfl, by simp⟩⟩
 ·obtain ⟨b', o', e1, e2⟩ := jSs (n0 := 0) hv hb hpq
  have hlen : ((l.drop p).take (q - p)).length = q - p := by simp; omega
  refine ⟨_, e1, h0', .inr ⟨b', o', by rw [hlen], ?_⟩⟩
  by_cases e : p < q
  ·obtain ⟨rfl, rfl⟩ := e2 e
   rcases h with rfl | ⟨blk, hK, hc⟩
   ·simp at hq; omega
   ·refine .inr ⟨blk, hK, fun m a ha => ?_⟩
    rw [List.getElem?_take] at ha
    split at ha
    ·rw [List.getElem?_drop] at ha
     rw [Nat.mul_one, Nat.add_assoc]
     exact hc _ _ ha
    ·cases ha
  ·left; have : q - p = 0 := by omega
   rw [this]; simp
theorem QV.cut {T r n p q : Nat} {x : X} {lo hi : Option X} {τ : Ev.T} (h : QV C W σ T r n (x.ev τ)) (hb : vP n (X.evO τ lo) (X.evO τ hi) = some (p, q)) (hpq : p ≤ q) (hq : q ≤ n) :
  ∃ v, xSl (C.ct T 0).length x lo hi τ = some v ∧ QV C W σ T r (q - p) v := by
 obtain ⟨ht, h⟩ := h
 rcases h with ⟨hv, rfl⟩ | ⟨b, o, hv⟩
 ·exact ⟨_, jDb hv hb, .q0 _ _, .inl ⟨rfl, by omega⟩⟩
 ·obtain ⟨b', o', e1, e2⟩ := jSs (n0 := 0) hv hb hpq
  refine ⟨_, e1, ?_, .inr ⟨_, _, rfl⟩⟩
  by_cases e : p < q
  ·obtain ⟨rfl, rfl⟩ := e2 e
   rw [hv] at ht
   cases ht with
   | qe => omega
   | q _ _ _ _ _ kn blk k1 k2 κ ks k3 cs k4 k5 =>
    refine .q T r _ _ _ (by omega) blk k1 k2 (fun k => κ (p + k)) (Nat.le_trans (jRe (ρ := fun k => tN C T (κ k)) (by omega)) ks) k3 (fun m => cs (p * (C.ct T 0).length + m)) (fun m hm => ?_) (fun k j ty hk hj => ?_)
    ·rw [Nat.add_assoc]
     refine k4 _ ?_
     have : (p + (q - p)) * (C.ct T 0).length ≤ n * (C.ct T 0).length := Nat.mul_le_mul_right _ (by omega)
     rw [Nat.add_mul] at this
     omega
    ·have := k5 (p + k) j ty (by omega) hj
     rw [Nat.add_mul, Nat.add_assoc] at this
     exact this
  ·have : q - p = 0 := by omega
   rw [this]; exact .qe _ _ _ _
theorem oD (hr : Rl C W H σ) {i n sz : Nat} {hb : HB} {l : List (Nat × Nat)} {v : AV} (hi : H[i]? = some hb) (hc : hb.c = .xs l) (ht : mK C (W.as i) n sz v hb.c) {Wf : Wd} (hf : wN W H σ Wf i) (hcn : l = [] ∨ kI l) : XV Wf l v := by
 rw [hc] at ht
 obtain ⟨rfl, rfl, rfl⟩ := ht
 by_cases e : l = []
 ·subst e; exact ⟨by simp [kI], .inl ⟨rfl, rfl⟩⟩
 ·have hl : qB hb.c := by rw [hc]; exact e
  obtain ⟨blk, g1, g2, g3, g4⟩ := hr.blk i hb hi hl
  rw [hc] at g4
  obtain ⟨blk', k1, k2⟩ := (hf hb hi hl).1 l hc
  rw [g1] at k1; cases k1
  have : l.length ≠ 0 := by intro q; exact e (List.eq_nil_of_length_eq_zero q)
  rw [if_neg this]
  refine ⟨g4.2, .inr ⟨_, _, rfl, .inr ⟨blk, k2, fun m p hp => ?_⟩⟩⟩
  rw [g4.1, Nat.zero_add, List.getElem?_map, hp]; rfl
theorem jXw {n : Nat} (hNB : n ≤ NB) (hr : Rl C W H σ) {i sz T r m : Nat} {hb : HB} {v : AV} (hi : H[i]? = some hb) (hc : hb.c = .r T r m) (ht : mK C (W.as i) n sz v hb.c) {Wf : Wd} (hf : wN W H σ Wf i) (go : Go' W σ Wf σ) : QV C Wf σ T r n v := by
 rw [hc] at ht
 obtain ⟨rfl, rfl, rfl⟩ := ht
 by_cases e : m = 0
 ·subst e; exact ⟨.q0 _ _, .inl ⟨rfl, rfl⟩⟩
 ·have hl : qB hb.c := by rw [hc]; exact e
  obtain ⟨blk, g1, g2, g3, g4⟩ := hr.blk i hb hi hl
  rw [hc] at g4
  have hA := (hf hb hi hl).2 fun l q => by rw [hc] at q; cases q
  rw [if_neg e]
  exact ⟨(zG.go go hr.kok g4).tv hNB (.inl hA) g1 fun k hk => by rw [Nat.zero_add], .inr ⟨_, _, rfl⟩⟩
theorem qCm {n : Nat} (hNB : n ≤ NB) (hr : Rl C W H σ) {i T r : Nat} {hb : HB} {l : List SV} {v : AV} (hi : H[i]? = some hb) (hc : hb.c = .l l) (ht : mK C (W.as i) n (C.ct T 0).length v hb.c) {Wf : Wd} (hf : wN W H σ Wf i) (go : Go' W σ Wf σ)
  {blk : zZ} (g1 : σ.t.get (W.as i) = some blk) (hrow : zG C W σ T r n blk.cells) : QV C Wf σ T r n v := by
 rw [hc] at ht
 obtain ⟨rfl, h1, h2⟩ := ht
 have hl : qB hb.c := by rw [hc]; trivial
 have hA := (hf hb hi hl).2 fun l q => by rw [hc] at q; cases q
 exact ⟨(zG.go go hr.kok hrow).tv hNB (.inl hA) g1 fun k hk => by rw [Nat.zero_add], .inr ⟨_, _, rfl⟩⟩
theorem bN (hr : Rl C W H σ) {i : Nat} {hb : HB} {l : List (Nat × Nat)} (hi : H[i]? = some hb) (hc : hb.c = .xs l) : l = [] ∨ kI l := by
 by_cases e : l = []
 ·exact .inl e
 ·obtain ⟨blk, g1, g2, g3, g4⟩ := hr.blk i hb hi (by rw [hc]; exact e)
  rw [hc] at g4; exact .inr g4.2
theorem jZj (hr : Rl C W H σ) {E : Env} {τ : T} (he : zJ C W H σ E τ) {sz : Nat} {s : SV} {x : X} {lo hi : Option X} {Q : QO} (hx : sv C W H σ s (x.ev τ)) (h0 : wSl C H sz s lo hi E Q) : OO C W H σ (eP σ (xSl sz x lo hi τ)) Q := by
 unfold wSl at h0
 split at h0
 ·obtain ⟨a, h, ha⟩ := vX he h0
  obtain ⟨b, h, hb⟩ := vX he h
  obtain ⟨hab, h⟩ := h
  have := fS (n := 0) ha (by simpa using hb) hab
  exact PO.oo hr ⟨_, _, jDb hx this, h, rfl⟩
 ·rename_i T r n
  obtain ⟨e, h⟩ := jM h0
  have e' : sz = (C.ct T 0).length := by rw [Nat.eq_of_beq_eq_true e, qD]
  obtain ⟨a, h, ha⟩ := vX he h
  obtain ⟨b, h, hb⟩ := vX he h
  obtain ⟨hab, h⟩ := h
  have hbd := fS ha hb hab
  obtain ⟨v, e1, e2⟩ := QV.cut hx hbd (by omega) (by omega)
  rw [e']
  exact PO.oo hr ⟨_, _, e1, h _ (by omega), e2⟩
 ·rename_i l
  obtain ⟨e, h⟩ := jM h0
  cases Nat.eq_of_beq_eq_true e
  obtain ⟨a, h, ha⟩ := vX he h
  obtain ⟨b, h, hb⟩ := vX he h
  obtain ⟨hab, h⟩ := h
  have hbd := fS ha hb hab
  obtain ⟨v, e1, e2⟩ := XV.cut hx hbd (by omega) (by omega)
  refine PO.oo hr ⟨_, _, e1, h, ?_⟩
  rw [show (b - a).toNat = b.toNat - a.toNat by omega]; exact e2
 ·rename_i i g n sz'
  obtain ⟨hb, hi', hg, h⟩ := zA h0
  have ht := qT hx.2 hi' hg
  split at h
  ·rename_i l hc
   obtain ⟨e, h⟩ := jM h
   cases Nat.eq_of_beq_eq_true e
   obtain ⟨a, h, ha⟩ := vX he h
   obtain ⟨b, h, hbb⟩ := vX he h
   obtain ⟨hab, h⟩ := h
   obtain ⟨Wf, f1, f2, f3, f4, _⟩ := rR hr i
   have hX := oD hr hi' hc ht f4 (bN hr hi' hc)
   have hbd := fS ha hbb hab
   obtain ⟨v, e1, e2⟩ := XV.cut hX hbd (by omega) (by omega)
   refine ⟨v, σ, _, Wf, _, _, by rw [e1]; rfl, h, f1, f2, ?_, f3⟩
   rw [show (b - a).toNat = b.toNat - a.toNat by omega]; exact e2
  ·exact h.elim
 ·exact h0.elim
theorem jNw {b o n : Nat} {blk : zZ} (hg : σ.t.get b = some blk) (h : n ≤ (blk.cells.drop o).length) : σ.load b o n = some ((blk.cells.drop o).take n) := by
 simp only [Mem.load, hg, zD, gU h]
theorem rU {b o n sz : Nat} {blk : zZ} (hg : σ.t.get b = some blk) (h : n * sz ≤ (blk.cells.drop o).length) : aX σ sz (.sl b o n sz) = some (n, (blk.cells.drop o).take (n * sz)) := by
 have e0 : Nat.beq sz sz = true := by simp
 simp only [aX, e0, if_true, yI]
 by_cases e : n = 0
 ·subst e; simp
 ·simp [e, jNw hg h]
theorem jMy (hC : vQ C) (hr : Rl C W H σ) {T : Nat} {s : SV} {v : AV} {Q : Nat → Nat → Prop} (hx : sv C W H σ s v) (h0 : jKq C H T s Q) :
  ∃ R m news, aX σ (C.ct T 0).length v = some (m, news) ∧ Q R m ∧ zG C W σ T R m news := by
 unfold jKq at h0
 split at h0
 ·cases hx; exact ⟨0, 0, [], rfl, h0, zG.nil (cpl.of hC T)⟩
 ·rename_i T' r' m
  obtain ⟨e, h2⟩ := jM h0
  cases Nat.eq_of_beq_eq_true e
  obtain ⟨ht, hx⟩ := hx
  rcases hx with ⟨rfl, rfl⟩ | ⟨b, o, rfl⟩
  ·exact ⟨r', 0, [], rfl, h2, zG.nil (cpl.of hC T)⟩
  ·by_cases e0 : m = 0
   ·subst e0
    exact ⟨r', 0, [], by simp [aX], h2, zG.nil (cpl.of hC T)⟩
   ·cases ht with
    | qe => exact absurd rfl e0
    | q _ _ _ _ _ kn blk k1 k2 κ ks kp cs k4 k5 =>
     have hL := hC.pos T 0
     have hle : m * (C.ct T 0).length ≤ (blk.cells.drop o).length := by
      have hp : 0 < m * (C.ct T 0).length := Nat.mul_pos (by omega) hL
      have := (List.getElem?_eq_some_iff.1 (k4 (m * (C.ct T 0).length - 1) (by omega))).1
      simp; omega
     refine ⟨r', m, _, rU k2 hle, h2, κ, ks, kp, by simp at hle ⊢; omega, fun k j ty hk hj => ⟨_, ?_, k5 k j ty hk hj⟩⟩
     have hj' := (List.getElem?_eq_some_iff.1 hj).1
     rw [kp.len] at hj'
     have := jJf (L := (C.ct T 0).length) hk hj'
     rw [List.getElem?_take, if_pos this, List.getElem?_drop]
     exact k4 _ this
 ·rename_i j g m sz
  obtain ⟨e, h⟩ := jM h0
  have e' : sz = (C.ct T 0).length := by rw [Nat.eq_of_beq_eq_true e, qD]
  subst e'
  obtain ⟨hb, hi, hg, h⟩ := zA h
  have ht := qT hx.2 hi hg
  split at h
  ·rename_i l hc
   rw [hc] at ht
   obtain ⟨rfl, h1, h2⟩ := ht
   obtain ⟨blk, g1, g2, g3, g4⟩ := hr.blk j hb hi (by rw [hc]; trivial)
   rw [hc] at g4
   obtain ⟨R, hR, hrows⟩ := nY hC hr.kok g4.1 h
   have hle : m * (C.ct T 0).length ≤ (blk.cells.drop 0).length := by rw [List.drop_zero, hrows.len]; exact Nat.le_refl _
   refine ⟨R, m, _, rU g1 hle, hR, ?_⟩
   rw [List.drop_zero, List.take_of_length_le (by rw [hrows.len]; exact Nat.le_refl _)]
   exact hrows
  ·exact h.elim
 ·exact h0.elim
def jEm (l : List (Nat × Nat)) : List AV := l.map fun p => AV.s p.1 p.2
theorem fN : ∀ {l : List SV} {v : List AV} {Q : List (Nat × Nat) → Prop}, svs C W H σ l v → yY l Q → ∃ m, Q m ∧ v = jEm m ∧ kI m ∧ m.length = l.length
 | [], v, Q, h, k => by simp only [svs] at h; subst h; exact ⟨[], k, rfl, by simp [kI], rfl⟩
 | x :: r, v, Q, h, k => by
  obtain ⟨y, t, rfl, h1, h2⟩ := h
  cases x <;> simp only [yY] at k <;> try exact k.elim
  rename_i n u
  obtain ⟨m, k1, rfl, k3, k4⟩ := fN h2 k
  obtain ⟨rfl, h0⟩ := h1
  refine ⟨(n, u) :: m, k1, rfl, fun p hp => ?_, by simp [k4]⟩
  rcases List.mem_cons.1 hp with rfl | hp
  ·exact h0
  ·exact k3 p hp
theorem jEx (hr : Rl C W H σ) {s : SV} {v : AV} {Q : List (Nat × Nat) → Prop} (hx : sv C W H σ s v) (h0 : jKw H s Q) : ∃ l, aX σ 1 v = some (l.length, jEm l) ∧ Q l ∧ kI l := by
 unfold jKw at h0
 split at h0
 ·cases hx; exact ⟨[], rfl, h0, by simp [kI]⟩
 ·rename_i l
  obtain ⟨hcn, hx⟩ := hx
  refine ⟨l, ?_, h0, hcn⟩
  rcases hx with ⟨rfl, rfl⟩ | ⟨b, o, rfl, hx⟩
  ·rfl
  ·rcases hx with rfl | ⟨blk, hK, hc⟩
   ·rfl
   ·by_cases e : l = []
    ·subst e; rfl
    ·have hpos : 0 < l.length := by cases l with | nil => exact absurd rfl e | cons a l => simp
     have hle : l.length * 1 ≤ (blk.cells.drop o).length := by
      have := (List.getElem?_eq_some_iff.1 (hc (l.length - 1) _ (List.getElem?_eq_getElem (by omega)))).1
      simp; omega
     rw [rU (hr.K _ _ hK).2 hle]
     congr 2
     rw [Nat.mul_one] at hle ⊢
     apply List.ext_getElem?
     intro m
     rw [List.getElem?_take, jEm, List.getElem?_map]
     split
     ·rename_i hm
      rw [List.getElem?_drop, hc m _ (List.getElem?_eq_getElem hm), List.getElem?_eq_getElem hm]; rfl
     ·rename_i hm
      rw [List.getElem?_eq_none (by omega)]; rfl
 ·rename_i j g m sz
  obtain ⟨e, h⟩ := jM h0
  cases Nat.eq_of_beq_eq_true e
  obtain ⟨hb, hi, hg, h⟩ := zA h
  have ht := qT hx.2 hi hg
  split at h
  ·rename_i l hc
   rw [hc] at ht
   obtain ⟨rfl, h1, h2⟩ := ht
   obtain ⟨blk, g1, g2, g3, g4⟩ := hr.blk j hb hi (by rw [hc]; trivial)
   rw [hc] at g4
   obtain ⟨_, h⟩ := jM h
   obtain ⟨l', k1, k2, k3, k4⟩ := fN g4.1 h
   have hbl : blk.cells.length = m := by rw [g4.1.len, h1, Nat.mul_one]
   refine ⟨l', ?_, k1, k3⟩
   rw [rU g1 (by rw [List.drop_zero, hbl, Nat.mul_one]; exact Nat.le_refl _), List.drop_zero, List.take_of_length_le (by rw [hbl, Nat.mul_one]; exact Nat.le_refl _), k2, k4, h1, Nat.mul_one]
  ·exact h.elim
 ·exact h0.elim
theorem dJ (l : List (Nat × Nat)) : jT (jEm l) = true := by
 rw [gD]
 intro i x e
 rw [jEm, List.getElem?_map] at e
 cases q : l[i]? with
 | none => rw [q] at e; cases e
 | some p => rw [q] at e; cases e; rfl
end
end
end Go.Proofs.YthfmepmchaofjaaGreat.Ev
end
section
set_option linter.all false
namespace Go.Proofs.YthfmepmchaofjaaGreat.Ev
noncomputable section
open Go
section
variable {C : Cx} {W W' : Wd} {H H' : Hp} {σ σ' : Mem}
theorem pG (H : Hp) (hb : HB) : (H ++ [hb])[H.length]? = some hb := by simp
theorem jRi (hr : Rl C W H σ) {e sz by_ m : Nat} {news : List AV} {c : HC} (hl : m ≠ 0 → qB c) (hnl : m = 0 → ¬ qB c) (hone : jT news = true)
  (hc : m ≠ 0 → ∀ W' H' σ', On C W H σ W' H' σ' → qU C W' H' σ' c news) (hts : ∀ a, mK C a m sz (if m = 0 then .sl0 else .sl a 0 m sz) c)
  (hlen : m * by_ ≤ 100000000000000 ∧ m ≤ 100000000000000) {Q : QO} (h : fX H e c fun i H t => Q (.ts i 0 m sz) H t) : OO C W H σ (jAk e sz by_ m news .sl0 σ) Q := by
 unfold fX at h
 rw [qD] at h
 have h1 : Nat.ble (m * by_) 100000000000000 = true := Nat.ble_eq_true_of_le hlen.1
 have h2 : Nat.ble m 100000000000000 = true := Nat.ble_eq_true_of_le hlen.2
 by_cases e0 : m = 0
 ·subst e0
  obtain ⟨k1, k2, k3⟩ := eT hr (hb' := ⟨e, 0, c⟩) (hnl rfl)
  refine ⟨.sl0, σ, _, W, _, _, rfl, h, k1, k2, ?_, k3⟩
  exact ⟨rfl, ⟨e, 0, c⟩, pG _ _, Nat.le_refl _, fun _ => by simpa using hts (W.as H.length)⟩
 ·obtain ⟨W', k1, k2, k3, k4⟩ := jSl (σ' := ⟨Tr.put σ.t σ.nx (some ⟨e, true, news⟩), σ.nx + 1, σ.it⟩) hr (e := e) (c := c) (blk := ⟨e, true, news⟩) (hl e0) rfl rfl (fun b => vW _ _ _ _) rfl (fun W' on => hc e0 _ _ _ on)
  refine ⟨.sl σ.nx 0 m sz, _, _, W', _, _, ?_, h, k1, k2, ?_, k3⟩
  ·simp only [jAk, yI, e0, decide_false, Bool.false_eq_true, if_false, h1, h2, Bool.and_self, if_true, jY, eA hone]
  ·refine ⟨rfl, ⟨e, 0, c⟩, pG _ _, Nat.le_refl _, fun _ => ?_⟩
   have := hts (W'.as H.length)
   rw [if_neg e0, k4] at this
   show mK C (W'.as H.length) m sz _ c
   rw [k4]; exact this
theorem jDo (hr : Rl C W H σ) {i e sz by_ n m g : Nat} {hb : HB} {news : List AV} {c' : HC} {v : AV} (hi : H[i]? = some hb) (hg : hb.g = g) (he : hb.e = e)
  (hv : v = if n = 0 then .sl0 else .sl (W.as i) 0 n sz) (hln : qB hb.c ↔ n ≠ 0) (hm0 : m = 0 → (qB c' ↔ qB hb.c) ∧ ∀ (W' : Wd) (H' : Hp) (σ' : Mem) (cs : List AV), qU C W' H' σ' hb.c cs → qU C W' H' σ' c' cs) (hl : m ≠ 0 → qB c') (hone : jT news = true)
  (hn0 : n = 0 → m ≠ 0 → ∀ W' H' σ', On C W H σ W' H' σ' → qU C W' H' σ' c' news)
  (hcs : n ≠ 0 → m ≠ 0 → ∀ blk, σ.t.get (W.as i) = some blk → qU C W H σ hb.c blk.cells → blk.cells.length = n * sz ∧ jT blk.cells = true ∧ ∀ W' H' σ', On C W H σ W' H' σ' → qU C W' H' σ' c' (blk.cells ++ news))
  (hts : ∀ a, mK C a (n + m) sz (if n + m = 0 then .sl0 else .sl a 0 (n + m) sz) c') (hlen : (n + m) * by_ ≤ 100000000000000 ∧ n + m ≤ 100000000000000)
  {Q : QO} (h : Q (.ts i (Nat.succ g) (n + m) sz) (jJ H i ⟨e, Nat.succ g, c'⟩) ⟨false, [i]⟩) : OO C W H σ (jAk e sz by_ m news v σ) Q := by
 by_cases e0 : m = 0
 ·subst e0
  obtain ⟨k1, k2, k3⟩ := jXc hr hi (hb' := ⟨e, Nat.succ g, c'⟩) (by show hb.g < g + 1; omega) he.symm (hm0 rfl)
  refine ⟨v, σ, _, W, _, _, ?_, h, k1, k2, ?_, k3⟩
  ·rw [hv]
   by_cases e1 : n = 0
   ·subst e1; rfl
   ·rw [if_neg e1]; rfl
  ·refine ⟨by rw [hv]; split <;> rfl, _, yD hi, Nat.le_refl _, fun _ => ?_⟩
   have := hts (W.as i)
   rw [Nat.add_zero] at this
   rw [hv]; exact this
 ·by_cases e1 : n = 0
  ·subst e1
   rw [if_pos rfl] at hv
   subst hv
   rw [Nat.zero_add] at hlen hts h
   have h1 : Nat.ble (m * by_) 100000000000000 = true := Nat.ble_eq_true_of_le hlen.1
   have h2 : Nat.ble m 100000000000000 = true := Nat.ble_eq_true_of_le hlen.2
   obtain ⟨W', k1, k2, k3, k4⟩ := jSg (σ' := ⟨Tr.put σ.t σ.nx (some ⟨e, true, news⟩), σ.nx + 1, σ.it⟩) hr hi (hb' := ⟨e, Nat.succ g, c'⟩) (by show g + 1 = hb.g + 1; omega) (hl e0) (blk := ⟨e, true, news⟩) rfl rfl (by show (Tr.put σ.t σ.nx _).get σ.nx = _; rw [vW, if_pos rfl]) (fun b hb1 _ => by show (Tr.put σ.t σ.nx _).get b = _; rw [vW, if_neg (by omega)]) rfl (fun W' on => hn0 rfl e0 _ _ _ on)
   refine ⟨.sl σ.nx 0 m sz, _, _, W', _, _, ?_, h, k1, k2, ?_, k3⟩
   ·simp only [jAk, yI, e0, decide_false, Bool.false_eq_true, if_false, h1, h2, Bool.and_self, if_true, jY, eA hone]
   ·refine ⟨rfl, _, yD hi, Nat.le_refl _, fun _ => ?_⟩
    have := hts (W'.as i)
    rw [if_neg e0, k4] at this
    show mK C (W'.as i) m sz _ c'
    rw [k4]; exact this
  ·rw [if_neg e1] at hv
   subst hv
   have hlive := hln.2 e1
   obtain ⟨blk, g1, g2, g3, g4⟩ := hr.blk i hb hi hlive
   obtain ⟨c1, c2, c3⟩ := hcs e1 e0 blk g1 g4
   have hnm : n + m ≠ 0 := by omega
   have h1 : Nat.ble ((n + m) * by_) 100000000000000 = true := Nat.ble_eq_true_of_le hlen.1
   have h2 : Nat.ble (n + m) 100000000000000 = true := Nat.ble_eq_true_of_le hlen.2
   have hlt := hr.lt i hb hi hlive
   have htk : zS (n * sz) blk.cells = some blk.cells := by rw [gU (by omega), List.take_of_length_le (by omega)]
   have hone2 : jT (blk.cells ++ news) = true := by
    rw [gD] at *
    intro j x hx
    rw [List.getElem?_append] at hx
    split at hx
    ·exact c2 _ x hx
    ·exact hone _ x hx
   obtain ⟨W', k1, k2, k3, k4⟩ := jSg (σ' := ⟨Tr.put (Tr.put σ.t (W.as i) none) σ.nx (some ⟨e, true, blk.cells ++ news⟩), σ.nx + 1, σ.it⟩) hr hi (hb' := ⟨e, Nat.succ g, c'⟩) (by show g + 1 = hb.g + 1; omega) (hl e0) (blk := ⟨e, true, blk.cells ++ news⟩) rfl rfl
    (by show (Tr.put _ σ.nx _).get σ.nx = _; rw [vW, if_pos rfl])
    (fun b hb1 hb2 => by show (Tr.put (Tr.put σ.t (W.as i) none) σ.nx _).get b = _; rw [vW, if_neg (by omega), vW, if_neg (hb2 hlive)]) rfl (fun W' on => c3 _ _ _ on)
   refine ⟨.sl σ.nx 0 (n + m) sz, _, _, W', _, _, ?_, h, k1, k2, ?_, k3⟩
   ·have hk : Nat.beq sz sz = true := by simp
    have hel : Nat.beq blk.elem e = true := by rw [g2, he]; simp
    have hmb : (Nat.beq m 0) = false := by rw [yI]; simp [e0]
    simp only [jAk, hmb, hk, h1, h2, Bool.and_self, if_true, g1, qBa, g3, hel, htk, jY, Bool.false_eq_true, if_false]
    exact eA (σ := σ.kill (W.as i)) hone2
   ·refine ⟨rfl, _, yD hi, Nat.le_refl _, fun _ => ?_⟩
    have := hts (W'.as i)
    rw [if_neg hnm, k4] at this
    show mK C (W'.as i) (n + m) sz _ c'
    rw [k4]; exact this
theorem jXd (hr : Rl C W H σ) {u : SV} {v : AV} {sz : Nat} {Q : List SV → Prop} (hx : sv C W H σ u v) (h0 : jTs H u Q) : ∃ l, Q l ∧ ∀ m news, aX σ sz v = some (m, news) → svs C W H σ l news ∧ qF l = true := by
 unfold jTs at h0
 split at h0
 ·rename_i j g m sz'
  obtain ⟨e1, h⟩ := jM h0
  cases Nat.eq_of_beq_eq_true e1
  obtain ⟨hb, hi, hg, h⟩ := zA h
  have ht := qT hx.2 hi hg
  split at h
  ·rename_i l hc
   obtain ⟨e2, h⟩ := jM h
   rw [hc] at ht
   obtain ⟨rfl, h1, h2⟩ := ht
   obtain ⟨blk, g1, g2, g3, g4⟩ := hr.blk j hb hi (by rw [hc]; trivial)
   rw [hc] at g4
   refine ⟨l, h, fun m news q => ?_⟩
   by_cases e3 : sz = sz'
   ·subst e3
    have hle : 1 * sz ≤ (blk.cells.drop 0).length := by rw [List.drop_zero, g4.1.len, h1]; exact Nat.le_refl _
    rw [rU g1 hle] at q
    cases q
    rw [List.drop_zero, List.take_of_length_le (by rw [g4.1.len, h1]; exact Nat.le_refl _)]
    exact g4
   ·have e4 : Nat.beq sz sz' = false := by rw [yI]; simpa using e3
    have e5 : Nat.beq sz' sz = false := by rw [yI]; simpa using (Ne.symm e3)
    simp [aX, e4, e5] at q
    try exact absurd q.1 e3
  ·exact h.elim
 ·exact h0.elim
theorem jRw (hC : vQ C) (hr : Rl C W H σ) {e sz by_ : Nat} {s u : SV} {v x : AV} (hs : sv C W H σ s v) (hx : sv C W H σ u x) {Q : QO} (h0 : wAp C H e sz by_ s u Q) : OO C W H σ (eAp e sz by_ v (aX σ sz x) σ) Q := by
 unfold wAp at h0
 split at h0
 ·cases hs
  split at h0
  ·rename_i T r _
   obtain ⟨ez, h⟩ := jM h0
   have e' : sz = (C.ct T 0).length := by rw [Nat.eq_of_beq_eq_true ez, qD]
   subst e'
   obtain ⟨R, m, news, e1, h2, h3⟩ := jMy hC hr hx h
   rw [e1]
   exact jRi hr (c := .r T R m) (fun q => q) (fun q q2 => q2 q) h3.one (fun q W' H' σ' on => h3.go on.go on.k) (fun a => ⟨rfl, rfl, rfl⟩) h2.1 h2.2
  ·obtain ⟨ez, h⟩ := jM h0
   cases Nat.eq_of_beq_eq_true ez
   obtain ⟨l, e1, h2, h3⟩ := jEx hr hx h
   rw [e1]
   have hlen : l.length = 0 ↔ l = [] := List.length_eq_zero_iff
   exact jRi hr (c := .xs l) (fun q => fun q2 => q (hlen.2 q2)) (fun q q2 => q2 (hlen.1 q)) (dJ l) (fun q W' H' σ' on => ⟨rfl, h3⟩) (fun a => ⟨rfl, rfl, rfl⟩) h2.1 h2.2
  ·exact h0.elim
 ·rename_i i g n sz'
  obtain ⟨ez, h⟩ := jM h0
  cases Nat.eq_of_beq_eq_true ez
  obtain ⟨hb, hi, hg, h⟩ := zA h
  obtain ⟨ee, h⟩ := jM h
  have ee := Nat.eq_of_beq_eq_true ee
  have ht := qT hs.2 hi hg
  split at h
  ·rename_i T r n' hc
   rw [hc] at ht
   obtain ⟨rfl, e', hv⟩ := ht
   subst e'
   obtain ⟨ez2, h⟩ := jM h
   obtain ⟨R, m, news, e1, h2, h3⟩ := jMy hC hr hx h
   rw [e1]
   obtain ⟨h2a, h2 | h2⟩ := h2
   ·exact jDo hr (c' := .r T (r + R) (n' + m)) hi hg ee hv (by rw [hc]; exact Iff.rfl) (fun q => by rw [hc, q]; exact ⟨Iff.rfl, fun _ _ _ _ k => zG.mono k (Nat.le_add_right r R)⟩) (fun q => by show n' + m ≠ 0; omega) h3.one
     (fun q q2 W' H' σ' on => by subst q; have := zG.mono (h3.go on.go on.k) (Nat.le_add_left R r); rw [Nat.zero_add]; exact this)
     (fun q q2 blk g1 g4 => by
      rw [hc] at g4
      exact ⟨zG.len g4, zG.one g4, fun W' H' σ' on => (zG.app g4 h3).go on.go on.k⟩)
     (fun a => ⟨rfl, rfl, rfl⟩) h2a h2
   ·obtain ⟨l, h2, hl⟩ := jXd (sz := (C.ct T 0).length) hr hx h2
    obtain ⟨em, h2⟩ := jM h2
    cases Nat.eq_of_beq_eq_true em
    obtain ⟨hl1, hl2⟩ := hl _ _ e1
    have hpos := hC.pos T r
    exact jDo hr (c' := .rl T (r + R) (n' + 1) l) hi hg ee hv (by rw [hc]; exact Iff.rfl) (fun q => by omega) (fun q => by show n' + 1 ≠ 0; omega) h3.one
     (fun q q2 W' H' σ' on => by subst q; have := zG.mono (h3.go on.go on.k) (Nat.le_add_left R r); rw [Nat.zero_add]; exact ⟨this, by simpa using svs.on on _ _ hl1, hl2⟩)
     (fun q q2 blk g1 g4 => by
      rw [hc] at g4
      exact ⟨zG.len g4, zG.one g4, fun W' H' σ' on => by
       refine ⟨(zG.app g4 h3).go on.go on.k, ?_, hl2⟩
       rw [show n' + 1 - 1 = n' by omega, ← zG.len g4, List.drop_left]
       exact svs.on on _ _ hl1⟩)
     (fun a => ⟨rfl, rfl, rfl⟩) h2a h2
  ·rename_i l hc
   rw [hc] at ht
   obtain ⟨rfl, _, hv⟩ := ht
   obtain ⟨ez2, h⟩ := jM h
   cases Nat.eq_of_beq_eq_true ez2
   obtain ⟨l', e1, h2, h3⟩ := jEx hr hx h
   rw [e1]
   have hlen : l.length ≠ 0 ↔ l ≠ [] := not_congr List.length_eq_zero_iff
   have hlen' : l'.length = 0 ↔ l' = [] := List.length_eq_zero_iff
   exact jDo hr (c' := .xs (l ++ l')) hi hg ee hv (by rw [hc]; exact hlen.symm) (fun q => by rw [hc, hlen'.1 q, List.append_nil]; exact ⟨Iff.rfl, fun _ _ _ _ k => k⟩) (fun q => fun q2 => q (hlen'.2 (List.append_eq_nil_iff.1 q2).2)) (dJ l')
    (fun q q2 W' H' σ' on => by rw [List.length_eq_zero_iff] at q; subst q; exact ⟨rfl, h3⟩)
    (fun q q2 blk g1 g4 => by
     rw [hc] at g4
     refine ⟨by rw [g4.1]; simp, by rw [g4.1]; exact dJ l, fun W' H' σ' on => ⟨by rw [g4.1, jEm, List.map_append], fun p hp => ?_⟩⟩
     rcases List.mem_append.1 hp with hp | hp
     ·exact g4.2 p hp
     ·exact h3 p hp)
    (fun a => ⟨by simp, rfl, by simp⟩) h2.1 h2.2
  ·rename_i l hc
   obtain ⟨blk, g1, g2, g3, g4⟩ := hr.blk i hb hi (by rw [hc]; trivial)
   rw [hc] at ht g4
   obtain ⟨hv, hll, hpos⟩ := ht
   obtain ⟨ez2, h⟩ := jM h
   cases Nat.eq_of_beq_eq_true ez2
   obtain ⟨l0, h, hcells, hcan, hlen0⟩ := fN g4.1 h
   obtain ⟨l', e1, ⟨hne, h2⟩, h3⟩ := jEx hr hx h
   rw [e1]
   have hn0 : n ≠ 0 := by omega
   have hl' : l'.length ≠ 0 := fun q => hne (List.length_eq_zero_iff.1 q)
   exact jDo hr (c' := .xs (l0 ++ l')) hi hg ee (by rw [if_neg hn0]; exact hv) (by rw [hc]; exact ⟨fun _ => hn0, fun _ => trivial⟩) (fun q => absurd q hl') (fun q => fun q2 => hne (List.append_eq_nil_iff.1 q2).2) (dJ l')
    (fun q => absurd q hn0)
    (fun q q2 blk2 k1 k4 => by
     rw [g1] at k1; cases k1
     refine ⟨by rw [hcells]; simp [jEm]; omega, by rw [hcells]; exact dJ l0, fun W' H' σ' on => ⟨by rw [hcells, jEm, jEm, List.map_append], fun p hp => ?_⟩⟩
     rcases List.mem_append.1 hp with hp | hp
     ·exact hcan p hp
     ·exact h3 p hp)
    (fun a => ⟨by simp; omega, rfl, by simp [hl']⟩) h2.1 h2.2
  ·exact h.elim
 ·exact h0.elim
end
end
end Go.Proofs.YthfmepmchaofjaaGreat.Ev
end
