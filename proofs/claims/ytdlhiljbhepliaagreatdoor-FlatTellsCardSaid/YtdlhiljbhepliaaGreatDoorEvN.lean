/-
More fuel: the same answers. No program is named here.
-/
import Derived.Test.YtdlhiljbhepliaaGreatDoorEvA
set_option linter.all false
namespace Go.Proofs.YtdlhiljbhepliaaGreatDoor.Ev
noncomputable section
open Go
def CLe (c c':yR):Prop:=∀ f l σ r,c f l σ=some r→c' f l σ=some r
section
variable {c c':yR}
theorem jCy (h:CLe c c') {o:C} {τ:T} {σ:Mem} {r:AV×Mem} (e:yE c o τ σ=some r):yE c' o τ σ=some r:=by
 cases o with
 | cf f xs=>exact h _ _ _ _ e
 | cp f xs=>
  simp only [yE,eCp] at e ⊢;split at e
  ·rename_i hf;rw [if_pos hf];split at e
   ·rename_i v m hc;rw [h _ _ _ _ hc]; exact e
   ·cases e
  ·cases e
 | cq f xs=>
  simp only [yE,eCq] at e ⊢;split at e
  ·rename_i hf;rw [if_pos hf];unfold jRg at e ⊢;split at e
   ·rename_i v m hc;rw [h _ _ _ _ hc]; exact e
   ·cases e
  ·cases e
 | cv x xs=>
  simp only [yE,eCv] at e ⊢;split at e
  ·rename_i hx;exact h _ _ _ _ e
  ·cases e
 | _=>exact e
theorem pK (h:CLe c c'):∀ {l:List O} {τ:T} {σ:Mem} {r:T×Mem},gL c l τ σ=some r→gL c' l τ σ=some r
 | [],τ,σ,r,e=>e
 | o::l,τ,σ,r,e=>by
  simp only [gL] at e ⊢;split at e
  ·split at e
   ·rename_i v σ1 hx;simp only [jCy h hx];exact pK h e
   ·cases e
  ·exact pK h e
  ·cases e
theorem vG (h:CLe c c'):∀ {l:List O} {τ:T} {hs:List Mem} {k:Nat} {rs:List Rd} {r:T×Mem},xJ c l τ hs k rs=some r→xJ c' l τ hs k rs=some r
 | [],τ,hs,k,rs,r,e=>e
 | o::l,τ,[],k,rs,r,e=>by simp only [xJ] at e; cases e
 | o::l,τ,σ::hs,k,rs,r,e=>by
  simp only [xJ] at e ⊢;split at e
  ·split at e
   ·rename_i v σ1 hx;simp only [jCy h hx];split at e
    ·rename_i ha; rw [if_pos ha]; exact vG h e
    ·rename_i ha; rw [if_neg ha]; exact vG h e
   ·cases e
  ·split at e
   ·rename_i ha; rw [if_pos ha]; exact vG h e
   ·rename_i ha; rw [if_neg ha]; exact vG h e
  ·cases e
theorem jHv {b b':T→Mem→St} (h:∀ τ σ r,b τ σ=some r→b' τ σ=some r):∀ {n:Nat} {τ:T} {σ:Mem} {r:E×T×Mem},iter b n τ σ=some r→iter b' n τ σ=some r
 | 0,τ,σ,r,e=>by cases e
 | n+1,τ,σ,r,e=>by
  simp only [iter] at e ⊢;cases hb:b τ σ with
  | none=>rw [hb] at e; cases e
  | some q=>
   rw [hb] at e;rw [h _ _ _ hb];obtain ⟨x,τ1,σ1⟩:=q;cases x with
   | nrm=>exact jHv h e
   | exit i=>exact e
   | ret=>exact e
theorem gD (h:CLe c c') (L:Nat):∀ (k:K) {τ:T} {σ:Mem} {r:E×T×Mem},evK c L k τ σ=some r→evK c' L k τ σ=some r
 | .skip,τ,σ,r,e=>e
 | .reg ops,τ,σ,r,e=>by
  simp only [evK] at e ⊢;split at e
  ·rename_i hx; simp only [pK h hx]; exact e
  ·cases e
 | .dreg ops,τ,σ,r,e=>by
  simp only [evK] at e ⊢;split at e
  ·rename_i hx; simp only [vG h hx]; exact e
  ·cases e
 | .fr ops fa us,τ,σ,r,e=>by
  simp only [evK] at e ⊢;split at e
  ·rename_i hx; simp only [vG h hx]; exact e
  ·cases e
 | .seq a b,τ,σ,r,e=>by
  simp only [evK] at e ⊢;cases ha:evK c L a τ σ with
  | none=>rw [ha] at e; cases e
  | some q=>
   rw [ha] at e;rw [gD h L a ha];obtain ⟨x,τ1,σ1⟩:=q;cases x with
   | nrm=>exact gD h L b e
   | exit i=>exact e
   | ret=>exact e
 | .cond v a b,τ,σ,r,e=>by
  simp only [evK] at e ⊢;generalize v.ev τ=w at e ⊢;split at e
  ·exact gD h L a e
  ·exact gD h L b e
  ·cases e
 | .block id k,τ,σ,r,e=>by
  simp only [evK] at e ⊢;cases ha:evK c L k τ σ with
  | none=>rw [ha] at e; cases e
  | some q=>
   rw [ha] at e;rw [gD h L k ha];exact e
 | .loop k,τ,σ,r,e=>jHv (fun τ σ r hb=>gD h L k hb) e
 | .exit id,τ,σ,r,e=>e
 | .ret,τ,σ,r,e=>e
 | .no,τ,σ,r,e=>by simp only [evK] at e; cases e
theorem jNd (fs:Nat→Option F) (orc:Nat→List AV→Mem→Option AV) (L:Nat):∀ d,CLe (evF fs orc L d) (evF fs orc L (d+1))
 | 0,f,l,σ,r,e=>by cases e
 | d+1,f,l,σ,r,e=>by
  have ih:=jNd fs orc L d;simp only [evF] at e ⊢;cases ho:orc f l σ with
  | some v=>rw [ho] at e; exact e
  | none=>
   rw [ho] at e;cases hg:fs f with
   | none=>rw [hg] at e; cases e
   | some g=>
    rw [hg] at e;dsimp only at e ⊢;split at e
    ·rename_i hl;rw [if_pos hl];cases hk:evK (evF fs orc L d) L g.body (nG l 0 .e) σ with
     | none=>rw [hk] at e; cases e
     | some q=>rw [hk] at e; have:=gD ih L _ hk; simp only [evF] at this; rw [this]; exact e
    ·cases e
theorem qBo {fs:Nat→Option F} {orc:Nat→List AV→Mem→Option AV} {L d d':Nat} (h:d≤d'):CLe (evF fs orc L d) (evF fs orc L d'):=by
 induction h with
 | refl=>exact fun _ _ _ _ e=>e
 | step _ ih=>exact fun f l σ r e=>jNd fs orc L _ _ _ _ _ (ih f l σ r e)
end
end
end Go.Proofs.YtdlhiljbhepliaaGreatDoor.Ev
