/-
The law holds of a run: what the evaluator answers.
-/
import Derived.Test.YthfmepmchaofjaaGreatLfE
import Derived.Test.YthfmepmchaofjaaGreatLfF
import Derived.Test.YthfmepmchaofjaaGreatLfG
import Derived.Test.YthfmepmchaofjaaGreatLfH
import Derived.Test.YthfmepmchaofjaaGreatLfI
set_option linter.all false
namespace Go.Proofs.YthfmepmchaofjaaGreat.Ev.Lf
noncomputable section
open Go Ev Rf
set_option maxRecDepth 4000
def Fn (f : Nat) : Ct := fun d l H Q => match f with
 | 4 => jQp d l H Q
 | 3 => qAe d l H Q
 | 6 => jDd d l H Q
 | 7 => jMs d l H Q
 | 8 => oU d l H Q
 | 9 => eK d l H Q
 | 10 => rM d l H Q
 | 11 => sE d l H Q
 | 12 => dP d l H Q
 | 23 => jMo d l H Q ∨ jOe d l H Q
 | 24 => aY (some 35) d l H Q
 | 25 => aY none d l H Q
 | 26 => fD d l H Q
 | 27 => jHq d l H Q
 | 28 => aY (some 35) d l H Q
 | 29 => jKb d l H Q
 | 30 => sH d l H Q
 | 31 => bT d l H Q
 | 50 => vL (.f 24 [] [.tp 1 0 0]) d l H Q ∨ vL (.f 28 [] [.tp 1 0 0]) d l H Q
 | 51 => lJ d l H Q ∨ lI d l H Q ∨ oH d l H Q
 | 52 => eS d l H Q
 | 53 => dO d l H Q
 | 74 => jVm d l H Q
 | 75 => jKb d l H Q
 | _ => False
def ΓL (G : Nat → List SV → SV → Prop) : qC := fun d f l H Q => Gam PT G d f l H Q ∨ Fn f d l H Q
structure qAq (fs : Nat → Option F) : Prop where
 f3 : fs 3 = some g3
 f6 : fs 6 = some g6
 f7 : fs 7 = some g7
 f8 : fs 8 = some g8
 f9 : fs 9 = some g9
 f10 : fs 10 = some g10
 f11 : fs 11 = some g11
 f12 : fs 12 = some g12
 f23 : fs 23 = some g23
 f24 : fs 24 = some g24
 f25 : fs 25 = some g25
 f26 : fs 26 = some g26
 f27 : fs 27 = some g27
 f28 : fs 28 = some g28
 f29 : fs 29 = some g29
 f30 : fs 30 = some g30
 f31 : fs 31 = some g31
 f50 : fs 50 = some g50
 f51 : fs 51 = some g51
 f52 : fs 52 = some g52
 f53 : fs 53 = some g53
 f74 : fs 74 = some g74
 f75 : fs 75 = some g75
section
variable {G : Nat → List SV → SV → Prop} {fs : Nat → Option F}
theorem qCi (hf : qAq fs) : ∀ (f d : Nat) (l : List SV) (H : Hp) (Q : Q2), Fn f d l H Q → f ≠ 4 → ∃ d', d = d' + 1 ∧ ∃ g, fs f = some g ∧ wF (PT.C G) (ΓL G) LL d' f g l H Q := by
 intro f d l H Q h h4
 unfold Fn at h
 split at h
 ·exact absurd rfl h4
 ·obtain ⟨e, rfl⟩ : ∃ e, d = e + 1 := ⟨d - 1, by have := jUc h; omega⟩
  exact ⟨e, rfl, _, hf.f3, p3 (fun _ _ _ _ h => .inr h) (jSj fun _ _ _ _ _ h => .inl h) (jVw fun _ _ _ _ _ h => .inl h) (fun _ _ _ _ h => .inr h) (fun _ _ _ _ h => .inr h) (fun _ _ _ _ h => .inr h) (fun _ _ _ _ h => .inr h) (fun _ _ _ _ h => .inr h) (fun _ _ _ _ h => .inr h) (fun _ _ _ _ h => .inr h) e l H Q h⟩
 ·obtain ⟨e, rfl⟩ : ∃ e, d = e + 1 := ⟨d - 1, by have := jJn h; omega⟩
  exact ⟨e, rfl, _, hf.f6, p6 e l H Q h⟩
 ·obtain ⟨e, rfl⟩ : ∃ e, d = e + 1 := ⟨d - 1, by have := jOp h; omega⟩
  exact ⟨e, rfl, _, hf.f7, p7 (fun _ _ _ _ h => .inr (.inl h)) e l H Q h⟩
 ·obtain ⟨e, rfl⟩ : ∃ e, d = e + 1 := ⟨d - 1, by have := jJq h; omega⟩
  exact ⟨e, rfl, _, hf.f8, p8 (fun _ _ _ _ h => .inr h) (fun _ _ _ _ h => .inr h) e l H Q h⟩
 ·obtain ⟨e, rfl⟩ : ∃ e, d = e + 1 := ⟨d - 1, by have := jIt h; omega⟩
  exact ⟨e, rfl, _, hf.f9, p9 (fun _ _ _ _ h => .inr (.inr h)) e l H Q h⟩
 ·obtain ⟨e, rfl⟩ : ∃ e, d = e + 1 := ⟨d - 1, by have := jDg h; omega⟩
  exact ⟨e, rfl, _, hf.f10, p10 (fun _ _ _ _ h => .inr h) e l H Q h⟩
 ·obtain ⟨e, rfl⟩ : ∃ e, d = e + 1 := ⟨d - 1, by have := jDi h; omega⟩
  exact ⟨e, rfl, _, hf.f11, p11 (fun _ _ _ _ h => .inr h) e l H Q h⟩
 ·obtain ⟨e, rfl⟩ : ∃ e, d = e + 1 := ⟨d - 1, by have := jAw h; omega⟩
  exact ⟨e, rfl, _, hf.f12, p12 (fun _ _ _ _ h => .inr h) e l H Q h⟩
 ·rcases h with h | h
  ·obtain ⟨e, rfl⟩ : ∃ e, d = e + 1 := ⟨d - 1, by have := jOr h; omega⟩
   exact ⟨e, rfl, _, hf.f23, p23R (fun _ _ _ _ h => .inr (.inl h)) (fun _ _ _ _ h => .inr (.inl h)) e l H Q h⟩
  ·obtain ⟨e, rfl⟩ : ∃ e, d = e + 1 := ⟨d - 1, by have := jPp h; omega⟩
   exact ⟨e, rfl, _, hf.f23, p23N (fun _ _ _ _ h => .inr (.inr h)) (fun _ _ _ _ h => .inr (.inr (.inl h))) e l H Q h⟩
 ·obtain ⟨e, rfl⟩ : ∃ e, d = e + 1 := ⟨d - 1, by have := jAj h; omega⟩
  exact ⟨e, rfl, _, hf.f24, p24 e l H Q h⟩
 ·obtain ⟨e, rfl⟩ : ∃ e, d = e + 1 := ⟨d - 1, by have := jAj h; omega⟩
  exact ⟨e, rfl, _, hf.f25, p25 e l H Q h⟩
 ·obtain ⟨e, rfl⟩ : ∃ e, d = e + 1 := ⟨d - 1, by have := jAv h; omega⟩
  exact ⟨e, rfl, _, hf.f26, p26 e l H Q h⟩
 ·obtain ⟨e, rfl⟩ : ∃ e, d = e + 1 := ⟨d - 1, by have := jPi h; omega⟩
  exact ⟨e, rfl, _, hf.f27, p27 (fun _ _ _ _ h => .inr h) (fun _ _ _ _ h => .inr h) e l H Q h⟩
 ·obtain ⟨e, rfl⟩ : ∃ e, d = e + 1 := ⟨d - 1, by have := jAj h; omega⟩
  exact ⟨e, rfl, _, hf.f28, p28 e l H Q h⟩
 ·obtain ⟨e, rfl⟩ : ∃ e, d = e + 1 := ⟨d - 1, by have := jHb h; omega⟩
  exact ⟨e, rfl, _, hf.f29, p29 e l H Q h⟩
 ·obtain ⟨e, rfl⟩ : ∃ e, d = e + 1 := ⟨d - 1, by have := jGv h; omega⟩
  exact ⟨e, rfl, _, hf.f30, p30 (fun _ _ _ _ h => .inr h) (fun _ _ _ _ h => .inr h) e l H Q h⟩
 ·obtain ⟨e, rfl⟩ : ∃ e, d = e + 1 := ⟨d - 1, by have := jFf h; omega⟩
  exact ⟨e, rfl, _, hf.f31, p31 (fun _ _ _ _ h => .inr h) (fun _ _ _ _ h => .inr h) e l H Q h⟩
 ·rcases h with h | h
  ·obtain ⟨e, rfl⟩ : ∃ e, d = e + 1 := ⟨d - 1, by have := mQ h; omega⟩
   exact ⟨e, rfl, _, hf.f50, p50R (fun _ _ _ _ h => .inr h) e l H Q h⟩
  ·obtain ⟨e, rfl⟩ : ∃ e, d = e + 1 := ⟨d - 1, by have := mQ h; omega⟩
   exact ⟨e, rfl, _, hf.f50, p50N (fun _ _ _ _ h => .inr h) e l H Q h⟩
 ·rcases h with h | h | h
  ·obtain ⟨e, rfl⟩ : ∃ e, d = e + 1 := ⟨d - 1, by have := jJg h; omega⟩
   exact ⟨e, rfl, _, hf.f51, p51R (fun _ _ _ _ h => .inr h) (fun _ _ _ _ h => .inr h) (fun _ _ _ _ h => .inr (.inl h)) e l H Q h⟩
  ·obtain ⟨e, rfl⟩ : ∃ e, d = e + 1 := ⟨d - 1, by have := jJr h; omega⟩
   exact ⟨e, rfl, _, hf.f51, p51N (fun _ _ _ _ h => .inr h) (fun _ _ _ _ h => .inr h) (fun _ _ _ _ h => .inr (.inr (.inl h))) e l H Q h⟩
  ·obtain ⟨e, rfl⟩ : ∃ e, d = e + 1 := ⟨d - 1, by have := jJw h; omega⟩
   exact ⟨e, rfl, _, hf.f51, p51B (fun _ _ _ _ h => .inr h) (fun _ _ _ _ h => .inr h) (fun _ _ _ _ h => .inr (.inr (.inr h))) e l H Q h⟩
 ·obtain ⟨e, rfl⟩ : ∃ e, d = e + 1 := ⟨d - 1, by have := jFw h; omega⟩
  exact ⟨e, rfl, _, hf.f52, p52 (fun _ _ _ _ h => .inr (.inr (.inr h))) e l H Q h⟩
 ·obtain ⟨e, rfl⟩ : ∃ e, d = e + 1 := ⟨d - 1, by have := jDs h; omega⟩
  exact ⟨e, rfl, _, hf.f53, p53 (fun _ _ _ _ h => .inr h) e l H Q h⟩
 ·obtain ⟨e, rfl⟩ : ∃ e, d = e + 1 := ⟨d - 1, by have := jSh h; omega⟩
  exact ⟨e, rfl, _, hf.f74, p74 e l H Q h⟩
 ·obtain ⟨e, rfl⟩ : ∃ e, d = e + 1 := ⟨d - 1, by have := jHb h; omega⟩
  exact ⟨e, rfl, _, hf.f75, p75 e l H Q h⟩
 ·exact h.elim
def mX : Nat → List AV → Option AV := fun f l => match f with
 | 4 => (match l with | [] => some (.b true) | _ => none)
 | _ => none
theorem jBj {f : Nat} (h : f ≠ 4) (l : List AV) : mX f l = none := by
 unfold mX
 split
 ·exact absurd rfl h
 ·rfl
def qBu (fs : Nat → Option F) : Prop := ∀ f ct, ct ∈ PT.cs f → f ≠ 4 ∧ ∃ g, fs f = some g ∧ ∃ (an : Nat → Option Ann) (hs : Nat → Option (List LT)) (kd : Nat → Nat), okF PT LL f g ct an hs kd
theorem jXf (hf : qAq fs) (hR : qBu fs) (hP : PSc PT) (n v : Nat) (hv : n = 0 → v = 0) (zs : List Int) : ∃ σ', evF fs mX LL 100000000001 3 [.s n v, .fi zs] gR = some (.b true, σ') := by
 have hC : vQ (PT.C (Gr fs mX LL)) := qDo fun T => by
  show 0 < (ctT T).length
  unfold ctT
  split <;> decide
 have hΓ : ∀ d f l H Q, ΓL (Gr fs mX LL) d f l H Q → ∃ d', d = d' + 1 ∧ (((∀ vs, mX f vs = none) ∧ ∃ g, fs f = some g ∧ wF (PT.C (Gr fs mX LL)) (ΓL (Gr fs mX LL)) LL d' f g l H Q) ∨ (H = [] ∧ ∃ s, yH l = true ∧ jX s = true ∧ (∀ W2 H2 σ2, sv (PT.C (Gr fs mX LL)) W2 H2 σ2 s (toA s)) ∧ mX f (aT l) = some (toA s) ∧ Q s [])) := by
  intro d f l H Q h
  rcases h with h | h
  ·obtain ⟨ct, hct, hc⟩ := h
   obtain ⟨h4, g, hg, an, hs, kd, hk⟩ := hR f ct hct
   obtain ⟨d', e, hw⟩ := qCx (qAu fs mX LL) hP (Γ := ΓL (Gr fs mX LL)) (fun _ _ _ _ _ h => .inl h) (show 0 < LL by unfold LL; omega) hk hc
   exact ⟨d', e, .inl ⟨jBj h4, g, hg, hw⟩⟩
  ·by_cases h4 : f = 4
   ·subst h4
    obtain ⟨rfl, rfl, hd, hQ⟩ := h
    exact ⟨d - 1, by omega, .inr ⟨rfl, .b true, rfl, rfl, fun _ _ _ => rfl, rfl, hQ⟩⟩
   ·obtain ⟨d', e, g, hg, hw⟩ := qCi hf f d l H Q h h4
    exact ⟨d', e, .inl ⟨jBj h4, g, hg, hw⟩⟩
 let W0 : Wd := ⟨fun _ => False, fun _ => none, fun _ => 0⟩
 have r0 : Rl (PT.C (Gr fs mX LL)) W0 [] gR := ⟨fun i j x y hx => by simp at hx, fun i x hx => by simp at hx, fun i x hx => by simp at hx, fun i x hx => by simp at hx, fun b h => h.elim, fun b x h => by cases h⟩
 obtain ⟨x, σ', s, W', H', e1, rfl, _, _, e5, _⟩ := qDk hC (qCa rfl) hΓ 100000000001 3 [.s n v, .fis zs.length] [] (fun s _ => s = .b true) (.inr ⟨n, v, zs.length, rfl, rfl, Nat.le_refl _, rfl⟩) W0 gR [.s n v, .fi zs] r0 ⟨_, _, rfl, ⟨rfl, hv⟩, _, _, rfl, ⟨zs, rfl, rfl⟩, rfl⟩
 cases e5
 exact ⟨σ', e1⟩
end
end
end Go.Proofs.YthfmepmchaofjaaGreat.Ev.Lf
