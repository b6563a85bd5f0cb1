/-
Each pure operation of the small language is the model's operation. No program is named here.
-/
import Derived.Test.YthfmepmchaofjaaGreatEvD
import Derived.Laws.BytesString
import Derived.Lib.Builder
import Derived.Lib.Bytealg
import Derived.Laws.StructEq
import Derived.MapKept
set_option linter.all false
namespace Go.Proofs.YthfmepmchaofjaaGreat.Ev
noncomputable section
open Go Go.RowKit
section
variable {P : Program} {μ : Mu} {B : Nat → Prop} {w0 w : World} {j : J} {σ : Mem} {τ : T} {a : Act}
theorem jAg (fs : List Field) (place : Nat → Option (Nat × Nat)) (hp : ∀ (i : Nat) (f : Field) (n : Nat), fs[i]? = some f → xQ P f.type = some n → place i = some (f.offset, n)) :
  ∀ (l : List (Nat × Operand)) (ps : List (Nat × Nat × X)), pQ P fs l = some ps → jBf place l ps
 | [], ps, h => by cases h; exact .nil
 | (i, x) :: r, ps, h => by
  simp only [pQ] at h
  split at h
  ·rename_i f hf
   split at h
   ·rename_i n y ps' h1 h2 h3
    cases h
    exact .cons (hp i f n hf h1) h2 (jAg fs place hp r ps' h3)
   ·cases h
  ·cases h
theorem nC (sz : Nat) : ∀ (l : List (Nat × Operand)) (ps : List (Nat × Nat × X)), gJ sz l = some ps → jBf (fun i => some (i * sz, sz)) l ps
 | [], ps, h => by cases h; exact .nil
 | (i, x) :: r, ps, h => by
  simp only [gJ] at h
  split at h
  ·rename_i y ps' h2 h3
   cases h
   exact .cons rfl h2 (nC sz r ps' h3)
  ·cases h
theorem oG : ∀ (fs : List Field), rQ P fs = true → ∃ places : List (Nat × Nat), fs.mapM (fun f => (P.info? f.type).map fun i => (f.offset, i.size)) = some places ∧
  ∀ (i : Nat) (f : Field) (n : Nat), fs[i]? = some f → xQ P f.type = some n → places[i]? = some (f.offset, n)
 | [], _ => ⟨[], rfl, fun i f n h => by simp at h⟩
 | f :: fs, h => by
  simp only [rQ, List.all_cons, Bool.and_eq_true] at h
  obtain ⟨n, hn⟩ := Option.isSome_iff_exists.1 h.1
  obtain ⟨i, hi, rfl⟩ := uX hn
  obtain ⟨pl, hm, hg⟩ := oG fs (by simpa [rQ] using h.2)
  refine ⟨(f.offset, i.size) :: pl, ?_, ?_⟩
  ·simp [List.mapM_cons, hi, hm]
  ·intro k g m hk hs
   cases k with
   | zero =>
    simp at hk
    subst hk
    obtain ⟨i', hi', rfl⟩ := uX hs
    rw [hi] at hi'
    cases hi'
    rfl
   | succ k => simpa using hg k g m (by simpa using hk) hs
theorem jHm (hμ : yJ μ) (ht : RT μ j τ a) {t : TypeId} {z l : List AV} {parts : Array (Nat × Operand)} {ps : List (Nat × Nat × X)} (hz : fP P t = some z)
  (hp : (∃ fs : Array Field, P.underlying t = some (.struct fs) ∧ rQ P fs.toList = true ∧ pQ P fs.toList parts.toList = some ps) ∨ (∃ k e n, P.underlying t = some (.array k e) ∧ xQ P e = some n ∧ gJ n parts.toList = some ps))
  (hl : wC τ ps z = some l) : ∃ cells : Array Value, (Instr.build t (parts.map fun (i, x) => (i, a.eval x))).run P w = .ok (.agg cells) w ∧ RL μ j l cells.toList := by
 obtain ⟨it, zv, hit, hzv, hzr, _⟩ := pS (μ := μ) (j := j) hz
 have hmap : (parts.map fun (x : Nat × Operand) => (x.1, a.eval x.2)).toList = parts.toList.map fun p => (p.1, a.eval p.2) := by simp
 rcases hp with ⟨fs, hu, hs, hpl⟩ | ⟨k, e, n, hu, hn, hpl⟩
 ·obtain ⟨places, hm, hg⟩ := oG fs.toList hs
  have hparts := jAg fs.toList (places[·]?) (fun i f n h1 h2 => hg i f n h1 h2) _ _ hpl
  obtain ⟨cells, hf, hr⟩ := eF hμ _ ht _ _ _ _ zv.cells hparts hl hzr
  refine ⟨cells, run_build w t _ cells ?_, hr⟩
  simp only [Program.built, hit, hu, hzv, hm]
  rw [hmap]
  simpa using hf
 ·obtain ⟨ie, hie, rfl⟩ := uX hn
  have hparts := nC ie.size _ _ hpl
  obtain ⟨cells, hf, hr⟩ := eF hμ _ ht _ _ _ _ zv.cells hparts hl hzr
  refine ⟨cells, run_build w t _ cells ?_, hr⟩
  simp only [Program.built, hit, hu, hzv, hie]
  rw [hmap]
  exact hf
theorem kG {len cap : Nat} {lo hi : Option X} {l h : Nat} (hb : vP len (X.evO τ lo) (X.evO τ hi) = some (l, h)) (hc : len ≤ cap) (ht : RT μ j τ a) {plo phi : Option Operand} (hlo : jPv plo = some lo) (hhi : jPv phi = some hi) (g : Bool) :
  (Instr.sliceBounds g len cap (plo.map a.eval) (phi.map a.eval) none).run P w = .ok (l, h, cap) w ∧ l ≤ h ∧ h ≤ len := by
 have val : ∀ (p : Option Operand) (x : Option X), jPv p = some x → (p = none ∧ x = none) ∨ ∃ q y, p = some q ∧ x = some y ∧ RV μ j (y.ev τ) (a.eval q) := by
  intro p x e
  cases p with
  | none => cases e; exact .inl ⟨rfl, rfl⟩
  | some q =>
   simp only [jPv] at e
   split at e
   ·rename_i y hy
    cases e
    exact .inr ⟨q, y, rfl, rfl, jL hy ht⟩
   ·cases e
 unfold vP at hb
 split at hb
 ·cases hb
 ·rename_i h' hh
  split at hb
  ·cases hb
  ·rename_i l' hl
   split at hb
   ·rename_i hle
    simp only [Option.some.injEq, Prod.mk.injEq] at hb
    obtain ⟨rfl, rfl⟩ := hb
    simp only [Bool.and_eq_true, Nat.ble_eq] at hle
    refine ⟨?_, hle.1, hle.2⟩
    rcases val phi hi hhi with ⟨rfl, rfl⟩ | ⟨q, y, rfl, rfl, hv⟩ <;> rcases val plo lo hlo with ⟨rfl, rfl⟩ | ⟨q', y', rfl, rfl, hv'⟩
    ·simp only [X.evO, Option.some.injEq] at hh hl
     subst hh; subst hl
     simp [Instr.sliceBounds]
    ·simp only [X.evO, Option.some.injEq] at hh hl
     subst hh
     obtain ⟨k, hk⟩ := kZ hl hv'
     simp [Instr.sliceBounds, Instr.sliceBound, hk, asIntOf, hle.1]
    ·simp only [X.evO, Option.some.injEq] at hh hl
     subst hl
     obtain ⟨k, hk⟩ := kZ hh hv
     have : h' ≤ cap := by omega
     simp [Instr.sliceBounds, Instr.sliceBound, hk, asIntOf, this]
    ·simp only [X.evO] at hh hl
     obtain ⟨k, hk⟩ := kZ hh hv
     obtain ⟨k', hk'⟩ := kZ hl hv'
     have : h' ≤ cap := by omega
     simp [Instr.sliceBounds, Instr.sliceBound, hk, hk', asIntOf, this, hle.1]
   ·cases hb
theorem jKr {l : List AV} {cs : Array Value} (h : RL μ j l cs.toList) {n : Nat} {x : AV} (hx : l[n]? = some x) : ∃ v, cs[n]? = some v ∧ RV μ j x v := by
 obtain ⟨v, hv, hr⟩ := RL.nth _ _ h n x hx
 exact ⟨v, by simpa using hv, hr⟩
theorem jLa {t : TypeId} {n : Option Nat} (hn : dD P t = some n) {l : List AV} {cs : Array Value} (hr : RL μ j l cs.toList) {off : Nat} {x : AV}
  (hx : fdA l off n = some x) : ∃ v, (part t cs off).run P w = .ok v w ∧ RV μ j x v := by
 rcases dU hn with ⟨k, rfl, ha, hs⟩ | ⟨rfl, ha⟩
 ·simp only [fdA] at hx
  split at hx
  ·rename_i l' hl
   cases hx
   rw [zD] at hl
   obtain ⟨rfl, hle⟩ := xJ _ _ _ hl
   refine ⟨.agg (cs.extract off (off + k)), by simp [part, vJ ha, run_sizeOf hs], _, rfl, ?_⟩
   have := (hr.drop off).take k
   simpa [List.take_drop, Array.toList_extract, List.extract_eq_take_drop] using this
  ·cases hx
 ·simp only [fdA, vT] at hx
  obtain ⟨v, hv, h⟩ := jKr hr hx
  exact ⟨v, by simp [part, vJ ha, hv], h⟩
theorem jBd : ∀ (bs : List UInt8) (r : ByteArray), ((bs.map fun b => (b.toNat : Int)).foldl (fun (r : ByteArray) (n : Int) => r.push (UInt8.ofNat n.toNat)) r).data.toList = r.data.toList ++ bs
 | [], r => by simp
 | b :: bs, r => by
  simp only [List.map_cons, List.foldl_cons]
  rw [jBd bs]
  simp
theorem vE (ad : Addr) (bs : List UInt8) (cap : Nat) (h : ∀ (i : Nat) (v : Value), (bs.map fun b => Value.int .u8 b.toNat)[i]? = some v → w.cell? (ad.add i) = some v) :
  ∃ s : ByteArray, (Conv.bytesToString (.slice (some ad) bs.length cap)).run P w = .ok (.string s) w ∧ s.data.toList = bs := by
 have h1 := run_loadCells_list (P := P) w ad (bs.map fun b => Value.int .u8 b.toNat) h
 rw [List.length_map] at h1
 refine ⟨_, run_bytesToString w ad bs.length cap (bs.map fun b => (b.toNat : Int)) (by rw [h1]; congr 1; simp [Function.comp_def]), ?_⟩
 rw [jBd]
 rfl
theorem qBq {t e : TypeId} {i : TypeInfo} (ht : P.underlying t = some (.pointer e)) (hi : P.info? e = some i) (hz : i.size ≠ 0) (p q : Option Addr) (h : ∀ a b, p = some a → q = some b → a.block = b.block) :
  (Op.equal t (.pointer p) (.pointer q)).run P w = .ok (p == q) w := by
 have h' : ∀ d : Nat, (Op.equalIn (d + 1) t (.pointer p) (.pointer q)).run P w = .ok (p == q) w := fun d => by
  cases p with
  | none => cases q <;> simp [Op.equalIn, run_underlying ht]
  | some a =>
   cases q with
   | none => simp [Op.equalIn, run_underlying ht]
   | some b =>
    have hb := h a b rfl rfl
    simp [Op.equalIn, run_underlying ht, sizeOf, typeInfo, hi, hz, sameAddr, hb]
 exact h' 9999
theorem jSw {t : TypeId} {ms : Array (String × TypeId)} (ht : P.underlying t = some (.interface ms)) : (Op.equal t .nilIface .nilIface).run P w = .ok true w := by
 have h' : ∀ d : Nat, (Op.equalIn (d + 1) t .nilIface .nilIface).run P w = .ok true w := fun d => by simp [Op.equalIn, run_underlying ht]
 exact h' 9999
theorem aJ {t u : TypeId} {v : Value} {ms : Array (String × TypeId)} (ht : P.underlying t = some (.interface ms)) : (Op.equal t (.iface u v) .nilIface).run P w = .ok false w := by
 have h' : ∀ d : Nat, (Op.equalIn (d + 1) t (.iface u v) .nilIface).run P w = .ok false w := fun d => by simp [Op.equalIn, run_underlying ht]
 exact h' 9999
theorem jNm {t e : TypeId} (ht : P.underlying t = some (.slice e)) (b : Option Addr) (n c : Nat) : (Op.equal t (.slice b n c) (.slice none 0 0)).run P w = .ok b.isNone w := by
 have h' : ∀ d : Nat, (Op.equalIn (d + 1) t (.slice b n c) (.slice none 0 0)).run P w = .ok b.isNone w := fun d => by cases b <;> simp [Op.equalIn, run_underlying ht]
 exact h' 9999
theorem jSk {k : Nat} {x y : AV} {b : Bool} (h : eqV k x y = some b) {t : TypeId} (ht : jNl P t = some k) {u v : Value} (hu : RV μ j x u) (hv : RV μ j y v) {d : Nat} (hd : d ≠ 0) : (Op.equalIn d t u v).run P w = .ok b w := by
 obtain ⟨d, rfl⟩ : ∃ k, d = k + 1 := ⟨d - 1, by omega⟩
 unfold jNl at ht
 split at ht <;> cases ht
 ·rename_i hq
  simp only [eqV] at h
  split at h <;> cases h
  cases hu
  cases hv
  exact run_equalIn_bool' w d t _ _ hq
 ·rename_i k hq
  simp only [eqV] at h
  split at h <;> first | (cases h; done) | skip
  split at h <;> cases h
  rename_i hk
  obtain rfl := kN hk
  cases hu
  cases hv
  rw [gS]
  exact run_equalIn_int w d t _ _ _ _ hq
 ·rename_i hq
  simp only [eqV] at h
  split at h <;> cases h
  obtain ⟨s1, rfl, e1, e1'⟩ := hu
  obtain ⟨s2, rfl, e2, e2'⟩ := hv
  subst e1 e1' e2 e2'
  rw [nR, run_equalIn_string w d t _ _ hq, toList_data, toList_data]
theorem oZ {l l' : List AV} {cs cs' : Array Value} (hl : RL μ j l cs.toList) (hl' : RL μ j l' cs'.toList) {d : Nat} (hd : d ≠ 0) : ∀ {fs : List Field} {offs : List (Nat × Nat)} {b : Bool}, jLt P fs = some offs → aZ l l' offs = some b → (Op.eqFields d cs cs' fs).run P w = .ok b w
 | [], offs, b, hs, h => by
  cases hs
  cases h
  rfl
 | f :: r, offs, b, hs, h => by
  simp only [jLt] at hs
  split at hs <;> first | (cases hs; done) | skip
  rename_i hn
  split at hs <;> cases hs
  rename_i k lo hk hlo
  have hn' : f.name ≠ "_" := by simpa using hn
  have hag : jHv P f.type = some false := by
   unfold jNl at hk
   unfold jHv
   split at hk <;> first | (cases hk; done) | (rename_i hq; rw [hq])
  have hpart : ∀ {l : List AV} {cs : Array Value} {x : AV}, RL μ j l cs.toList → pO f.offset l = some x → ∃ v, (part f.type cs f.offset).run P w = .ok v w ∧ RV μ j x v := by
   intro l cs x hr hx
   rw [vT] at hx
   obtain ⟨v, hv, hr'⟩ := jKr hr hx
   exact ⟨v, by simp [part, vJ hag, hv], hr'⟩
  simp only [aZ] at h
  split at h <;> first | (cases h; done) | skip
  rename_i x y hx hy
  obtain ⟨u, hu, hru⟩ := hpart hl hx
  obtain ⟨v, hv, hrv⟩ := hpart hl' hy
  simp only [Op.eqFields, hn', ne_eq, not_false_eq_true, if_true, Sem.run_bind, hu, hv, Result.andThen_ok]
  split at h <;> first | (cases h; done) | skip
  ·rename_i hb
   rw [jSk hb hk hru hrv hd]
   simp only [Result.andThen_ok, Bool.not_true, Bool.false_eq_true, if_false]
   exact oZ hl hl' hd hlo h
  ·rename_i hb
   cases h
   rw [jSk hb hk hru hrv hd]
   simp
theorem jXy (hr : Rel μ B w0 j σ w) (ht : RT μ j τ a) {o : Oper} {g : Bool} {op : BinOp} {t yt : TypeId} {y z : Operand} (ho : o.op = .binOp op t y z yt) (eo : op = if g then .neq else .eql) {y' z' : X} (hy : xOf y = some y') (hz : xOf z = some z') {c : C} {x : AV}
  (hc : jPm P g op t y' z' = some c) (hx : jQ c τ σ = some x) : jAz P μ j o a w x := by
 have h1 := jL hy ht
 have h2 := jL hz ht
 have fin : ∀ (u v : Value) (r : Bool), a.eval y = u → a.eval z = v → (∀ op, (eqGuard op t y z u v).run P w = .ok () w) → (∀ op, binOp op t u v = if op = .neq ∨ op = .eql then (do let b ← Op.equal t u v; pure (.bool (if op = .neq then !b else b))) else binOp op t u v) →
   (Op.equal t u v).run P w = .ok r w → x = .b (if g then !r else r) → jAz P μ j o a w x := by
  intro u v r e1 e2 hg hb he ex
  subst ex
  refine jV (s := do eqGuard op t y z (a.eval y) (a.eval z); binOp op t (a.eval y) (a.eval z)) (v := .bool (if g then !r else r)) (by simp only [execOp, ho]) ?_ rfl
  rw [e1, e2]
  simp only [Sem.run_bind, hg, Result.andThen_ok]
  rw [hb op]
  subst eo
  cases g <;> simp [he]
 unfold jPm at hc
 split at hc
 ·rename_i hu
  cases hc
  simp only [jQ, xBe] at hx
  split at hx <;> cases hx
  rename_i p q hp hq
  rw [hp] at h1
  rw [hq] at h2
  refine fin (.bool p) (.bool q) (p == q) h1 h2 (fun op => xA (by simp) (by simp)) (fun op => by cases op <;> rfl) (qAt hu p q) rfl
 ·rename_i e hu
  split at hc
  ·rename_i n hn
   split at hc <;> cases hc
   rename_i hnz
   obtain ⟨i, hi, rfl⟩ := uX hn
   have hnz' : i.size ≠ 0 := by simpa using hnz
   have fin2 : ∀ (p q : Option Addr) (r : Bool), a.eval y = .pointer p → a.eval z = .pointer q → (∀ a b, p = some a → q = some b → a.block = b.block) → (p == q) = r → x = .b (if g then !r else r) → jAz P μ j o a w x := by
    intro p q r e1 e2 h hr' ex
    subst hr'
    exact fin (.pointer p) (.pointer q) (p == q) e1 e2 (fun op => xA (by simp) (by simp)) (fun op => by cases op <;> rfl) (qBq hu hi hnz' p q h) ex
   simp only [jQ, xPe] at hx
   split at hx
   ·rename_i hp hq
    cases hx
    rw [hp] at h1
    rw [hq] at h2
    exact fin2 none none true h1 h2 (by simp) rfl (by cases g <;> rfl)
   ·rename_i b off hp hq
    cases hx
    rw [hp] at h1
    rw [hq] at h2
    obtain ⟨g2, _, e2⟩ := h2
    exact fin2 none _ false h1 e2 (by simp) rfl (by cases g <;> rfl)
   ·rename_i b off hp hq
    cases hx
    rw [hp] at h1
    rw [hq] at h2
    obtain ⟨g1, _, e1⟩ := h1
    exact fin2 _ none false e1 h2 (by simp) rfl (by cases g <;> rfl)
   ·rename_i b off b' off' hp hq
    split at hx <;> cases hx
    rename_i hbb
    obtain rfl : b = b' := by simpa using hbb
    rw [hp] at h1
    rw [hq] at h2
    obtain ⟨g1, hg1, e1⟩ := h1
    obtain ⟨g2, hg2, e2⟩ := h2
    rw [hg1] at hg2
    cases hg2
    refine fin2 _ _ (Nat.beq off off') e1 e2 (by intro a b ha hb; cases ha; cases hb; rfl) ?_ rfl
    rw [Bool.eq_iff_iff, beq_iff_eq, Nat.beq_eq]
    simp
   ·cases hx
  ·cases hc
 ·rename_i ms hu
  split at hc <;> cases hc
  simp only [jQ, xIe] at hx
  obtain ⟨v, rfl⟩ : ∃ v, z = .const v := by
   cases z with
   | const v => exact ⟨v, rfl⟩
   | tmp t => simp [xOf] at hz
   | func f => simp [xOf] at hz
   | global k => simp [xOf] at hz
  split at hx <;> cases hx
  ·rename_i hp hq
   rw [hp] at h1
   exact fin .nilIface .nilIface true h1 h2 (fun op => by rw [eqGuard_nil_constR]; rfl) (fun op => by cases op <;> rfl) (jSw hu) (by cases g <;> rfl)
  ·rename_i ti vi hp hq
   rw [hp] at h1
   obtain ⟨u, e1, _⟩ := h1
   exact fin (.iface ti u) .nilIface false e1 h2 (fun op => by rw [eqGuard_at_iface]; rfl) (fun op => by cases op <;> rfl) (aJ hu) (by cases g <;> rfl)
  ·rename_i hp hq
   rw [hp] at h1
   obtain ⟨ti, u, e1⟩ := h1
   exact fin (.iface ti u) .nilIface false e1 h2 (fun op => by rw [eqGuard_at_iface]; rfl) (fun op => by cases op <;> rfl) (aJ hu) (by cases g <;> rfl)
  ·rename_i hp hq
   cases hq
  ·rename_i hp hq
   cases hq
 ·rename_i e hu
  split at hc <;> cases hc
  simp only [jQ, xIe] at hx
  split at hx <;> cases hx
  ·rename_i hp hq
   cases hq
  ·rename_i hp hq
   cases hq
  ·rename_i hp hq
   cases hq
  ·rename_i hp hq
   rw [hp] at h1
   exact fin (.slice none 0 0) (.slice none 0 0) true h1 h2 (fun op => xA (by simp) (by simp)) (fun op => by cases op <;> rfl) (jNm hu none 0 0) (by cases g <;> rfl)
  ·rename_i b o n z hp hq
   rw [hp] at h1
   have e1 : ∃ ad m c, a.eval y = .slice (some ad) m c := by
    rcases h1 with ⟨_, _, ad, c, e, _⟩ | ⟨_, c, _, e, _⟩
    ·exact ⟨_, _, _, e⟩
    ·exact ⟨_, _, _, e⟩
   obtain ⟨ad, m, c, e1⟩ := e1
   exact fin (.slice (some ad) m c) (.slice none 0 0) false e1 h2 (fun op => xA (by simp) (by simp)) (fun op => by cases op <;> rfl) (jNm hu (some ad) m c) (by cases g <;> rfl)
 ·rename_i fs hu
  split at hc <;> first | (cases hc; done) | skip
  rename_i hno
  split at hc <;> cases hc
  rename_i offs hoffs
  simp only [Bool.or_eq_true, not_or, Bool.not_eq_true] at hno
  simp only [jQ, xSe] at hx
  split at hx <;> first | (cases hx; done) | skip
  rename_i l l' hp hq
  rw [hp] at h1
  rw [hq] at h2
  obtain ⟨cs, e1, hr1⟩ := h1
  obtain ⟨cs', e2, hr2⟩ := h2
  unfold qDh at hx
  split at hx <;> cases hx
  rename_i b hb
  have hfo : P.fieldsOf t = fs := by simp [Program.fieldsOf, hu]
  refine fin (.agg cs) (.agg cs') b e1 e2 (fun op => ?_) (fun op => by cases op <;> rfl) ?_ rfl
  ·cases op <;> simp [eqGuard, hno.2]
  ·have := run_equalIn_struct (P := P) w 9999 t cs cs' (by rw [hfo]; exact hu) hno.1
   rw [hfo, oZ hr1 hr2 (d := 9999) (by decide) hoffs hb] at this
   exact this
 ·cases hc
  obtain ⟨r, h3, h4⟩ := jNy (P := P) (w := w) hx t h1 h2 y z
  exact jV (s := do eqGuard op t y z (a.eval y) (a.eval z); binOp op t (a.eval y) (a.eval z)) (by simp only [execOp, ho]) h3 h4
theorem sV {t z : Nat} {f : Nat → Bool} {g : Nat → Nat} : ∀ {l : List Nat}, lX t ((l.filter f).map fun e => (e, g e)) = some z → f t = true ∧ z = g t
 | [], h => by cases h
 | a :: r, h => by
  cases e : f a with
  | false =>
   rw [List.filter_cons_of_neg (by simp [e])] at h
   exact sV h
  | true =>
   rw [List.filter_cons_of_pos e, List.map_cons] at h
   simp only [lX] at h
   split at h
   ·rename_i h2
    obtain rfl := Nat.eq_of_beq_eq_true h2
    cases h
    exact ⟨e, rfl⟩
   ·exact sV h
theorem jOo {u e : TypeId} {cells : Nat} (h : qAv P u e = true) (hn : P.cellsOf e ≤ cells) : liesAt P P.depth e (cells / P.cellsOf e) 0 u 1 = true := by
 unfold qAv at h
 simp only [Bool.and_eq_true, Bool.not_eq_true'] at h
 obtain ⟨⟨_, h0⟩, h1⟩ := h
 have h0' : P.cellsOf e ≠ 0 := fun e1 => by rw [e1] at h0; cases h0
 have hc : 1 ≤ cells / P.cellsOf e := (Nat.le_div_iff_mul_le (by omega)).2 (by omega)
 have row : ∀ (fits : TypeId → Bool) (d n : Nat), rowAt P fits d e 1 0 n = true → rowAt P fits d e (cells / P.cellsOf e) 0 n = true := by
  intro fits d n hr
  cases d with
  | zero => simp [rowAt] at hr
  | succ d =>
   simp only [rowAt, h0', if_false, Nat.zero_div, Nat.zero_mod, beq_self_eq_true, Bool.true_and, Nat.zero_add, Nat.sub_zero, Bool.or_eq_true, Bool.and_eq_true, decide_eq_true_eq] at hr ⊢
   rcases hr with ⟨a, b⟩ | ⟨a, b⟩
   ·exact .inl ⟨by omega, b⟩
   ·exact .inr ⟨by omega, b⟩
 have main : ∀ (d : Nat) (u : TypeId) (n : Nat), liesAt P d e 1 0 u n = true → liesAt P d e (cells / P.cellsOf e) 0 u n = true := by
  intro d
  induction d with
  | zero => intro u n h; simp [liesAt] at h
  | succ d ih =>
   intro u n h
   simp only [liesAt, Bool.or_eq_true] at h ⊢
   rcases h with h | h
   ·exact .inl (row _ _ _ h)
   ·right
    split at h
    ·exact ih _ _ h
    ·cases h
 exact main _ _ _ h1
theorem jFy (hr : Rel μ B w0 j σ w) (ht : RT μ j τ a) {o : Oper} {src dst : TypeId} {y : Operand} (ho : o.op = .convert src dst y) {y' : X} (hy : xOf y = some y') {x : AV} :
  (∀ t, P.underlying src = some (.pointer t) → P.underlying dst = some .unsafePointer → ∀ i, P.info? t = some i → i.size ≠ 0 → xPu y' τ σ = some x → jAz P μ j o a w x) ∧
  (∀ u, P.underlying src = some .unsafePointer → P.underlying dst = some (.pointer u) → ∀ i, P.info? u = some i → i.size ≠ 0 → xPf (pfT P u) y' τ σ = some x → jAz P μ j o a w x) := by
 have h1 := jL hy ht
 refine ⟨fun t hs hd i hi hz hx => ?_, fun u hs hd i hi hz hx => ?_⟩
 ·unfold xPu at hx
  split at hx <;> first | (cases hx; done) | skip
  rename_i b off hb
  rw [hb] at h1
  obtain ⟨g, hg, e1⟩ := h1
  unfold qBx at hx
  split at hx <;> first | (cases hx; done) | skip
  rename_i blk hblk
  split at hx <;> cases hx
  rename_i v hv
  rw [vT] at hv
  have hlt := (List.getElem?_eq_some_iff.1 hv).1
  obtain ⟨g2, cs, fz, hg2, hBg, hh, hcs, hfz, hth, hlen, hall, hcells⟩ := hr.get b blk hblk
  rw [hg] at hg2
  cases hg2
  have hsh : w.shape? g.c = some (blk.elem, cs.size) := by simp only [World.shape?, hh]
  exact jV (s := convert src dst (a.eval y)) (by simp only [execOp, ho]) (v := .pointer (some ⟨g.c, off, none⟩)) (by rw [e1]; exact Lib.run_to_unsafe w ⟨g.c, off, none⟩ hs hd hi hz hsh (by show off < _; omega)) ⟨g, hg, rfl⟩
 ·unfold xPf at hx
  split at hx <;> first | (cases hx; done) | skip
  rename_i b hb
  rw [hb] at h1
  obtain ⟨g, hg, e1⟩ := h1
  unfold qCh at hx
  split at hx <;> first | (cases hx; done) | skip
  rename_i blk hblk
  split at hx <;> first | (cases hx; done) | skip
  rename_i sz hel
  obtain ⟨hok, rfl⟩ := sV hel
  split at hx <;> cases hx
  rename_i l hl
  have hle := (xJ _ _ _ hl).2
  obtain ⟨g2, cs, fz, hg2, hBg, hh, hcs, hfz, hth, hlen, hall, hcells⟩ := hr.get b blk hblk
  rw [hg] at hg2
  cases hg2
  have hsh : w.shape? g.c = some (blk.elem, cs.size) := by simp only [World.shape?, hh]
  exact jV (s := convert src dst (a.eval y)) (by simp only [execOp, ho]) (v := .pointer (some ⟨g.c, 0, none⟩)) (by rw [e1]; exact Lib.run_from_unsafe w ⟨g.c, 0, none⟩ hs hd hi hsh (jOo hok (by omega))) ⟨g, hg, rfl⟩
theorem bP {s : String} {f : Nat} (h : aR P s f = true) (hs : (s == "runtime.NumGoroutine") = false) {e : Array Value → Sem Value} (he : ∀ fn : Func, fn.name = s → Extern.find fn = some e) (xs : Array Value) : (callFunc f xs).run P w = ((e xs).run P w).andThen fun v w' => .ok (.value v) w' := by
 unfold aR at h
 split at h
 ·rename_i fn hf
  simp only [Bool.and_eq_true, beq_iff_eq, Option.isNone_iff_eq_none] at h
  exact run_callFunc_extern hf (by rw [h.1.1]; exact hs) (by rw [h.1.2]; rfl) h.2 (he fn h.1.1) xs w
 ·cases h
theorem jMe (c : Nat) (hc : c < 256) : ∀ (l : List UInt8) (k : Nat), jTy c (l.map UInt8.toNat) k = if Lib.indexByte l (UInt8.ofNat c) = -1 then -1 else Lib.indexByte l (UInt8.ofNat c) + k
 | [], k => by simp [jTy, Lib.indexByte]
 | b :: l, k => by
  have hb : Nat.beq b.toNat c = (b == UInt8.ofNat c) := by
   rw [Bool.eq_iff_iff, Nat.beq_eq, beq_iff_eq, ← UInt8.toNat_inj, UInt8.toNat_ofNat', Nat.mod_eq_of_lt (by omega)]
  have hge := Lib.indexByte_ge l (UInt8.ofNat c)
  simp only [List.map_cons, jTy, Lib.indexByte, hb, jMe c hc l]
  split
  ·simp
  ·by_cases h : Lib.indexByte l (UInt8.ofNat c) = -1
   ·simp [h]
   ·simp only [h, if_false, beq_iff_eq]
    rw [if_neg (by omega)]
    show _ + ((k + 1 : Nat) : Int) = _
    omega
theorem jLl (c : Nat) (hc : c < 256) : ∀ (l : List UInt8) (k : Nat), jPb c (l.map UInt8.toNat) k = Lib.countByte l (UInt8.ofNat c) + k
 | [], k => by simp [jPb, Lib.countByte]
 | b :: l, k => by
  have hb : Nat.beq b.toNat c = (b == UInt8.ofNat c) := by
   rw [Bool.eq_iff_iff, Nat.beq_eq, beq_iff_eq, ← UInt8.toNat_inj, UInt8.toNat_ofNat', Nat.mod_eq_of_lt (by omega)]
  have h1 := jLl c hc l
  unfold Lib.countByte at h1 ⊢
  simp only [List.map_cons, jPb, hb, h1, List.count_cons]
  split
  ·show _ + (k + 1) = _; omega
  ·omega
theorem jOb (c : Nat) (hc : c < 256) : ∀ {l : List AV} {k : Nat} {r : Int} {bs : List UInt8}, jVr c l k = some r → RL μ j l (bs.map fun b => Value.int .u8 b.toNat) → r = if Lib.indexByte bs (UInt8.ofNat c) = -1 then -1 else Lib.indexByte bs (UInt8.ofNat c) + k
 | [], k, r, bs, h, hl => by
  have e1 : bs = [] := by simpa using (show (bs.map fun b => Value.int .u8 b.toNat) = [] from hl)
  cases h
  simp [e1, Lib.indexByte]
 | x :: l, k, r, bs, h, hl => by
  obtain ⟨v, t, e1, hv, ht⟩ := hl
  cases bs with
  | nil => cases e1
  | cons b bs =>
   simp only [List.map_cons, List.cons.injEq] at e1
   obtain ⟨rfl, rfl⟩ := e1
   have hcc : RV μ j (.i .u8 (.ofNat c)) (.int .u8 (UInt8.ofNat c).toNat) := by
    show Value.int .u8 ((UInt8.ofNat c).toNat : Int) = Value.int .u8 (Int.ofNat c)
    rw [UInt8.toNat_ofNat', Nat.mod_eq_of_lt (by omega)]; rfl
   have hge := Lib.indexByte_ge bs (UInt8.ofNat c)
   simp only [jVr] at h
   split at h
   ·rename_i hm
    cases h
    have := dT hm hv hcc
    simp [Lib.indexByte, this]
   ·rename_i hm
    have e2 := dT hm hv hcc
    rw [jOb c hc h ht]
    simp only [Lib.indexByte, e2, Bool.false_eq_true, if_false]
    by_cases h : Lib.indexByte bs (UInt8.ofNat c) = -1
    ·simp [h]
    ·simp only [h, if_false, beq_iff_eq]
     rw [if_neg (by omega)]
     show _ + ((k + 1 : Nat) : Int) = _
     omega
   ·cases h
theorem jDf (c : Nat) (hc : c < 256) : ∀ {l : List AV} {k r : Nat} {bs : List UInt8}, jTi c l k = some r → RL μ j l (bs.map fun b => Value.int .u8 b.toNat) → r = Lib.countByte bs (UInt8.ofNat c) + k
 | [], k, r, bs, h, hl => by
  have e1 : bs = [] := by simpa using (show (bs.map fun b => Value.int .u8 b.toNat) = [] from hl)
  cases h
  simp [e1, Lib.countByte]
 | x :: l, k, r, bs, h, hl => by
  obtain ⟨v, t, e1, hv, ht⟩ := hl
  cases bs with
  | nil => cases e1
  | cons b bs =>
   simp only [List.map_cons, List.cons.injEq] at e1
   obtain ⟨rfl, rfl⟩ := e1
   have hcc : RV μ j (.i .u8 (.ofNat c)) (.int .u8 (UInt8.ofNat c).toNat) := by
    show Value.int .u8 ((UInt8.ofNat c).toNat : Int) = Value.int .u8 (Int.ofNat c)
    rw [UInt8.toNat_ofNat', Nat.mod_eq_of_lt (by omega)]; rfl
   simp only [jTi] at h
   split at h
   ·rename_i hm
    have e2 := dT hm hv hcc
    have ih := jDf c hc h ht
    rw [ih]
    unfold Lib.countByte
    rw [List.count_cons, e2]
    show _ + (k + 1) = _
    simp; omega
   ·rename_i hm
    have e2 := dT hm hv hcc
    rw [jDf c hc h ht]
    unfold Lib.countByte
    rw [List.count_cons, e2]
    simp
   ·cases h
theorem jEd : ∀ {l : List AV}, jQs l = true → ∀ {vs : List Value}, RL μ j l vs → ∃ bs : List UInt8, vs = bs.map fun b => Value.int .u8 b.toNat
 | [], _, vs, h => by cases h; exact ⟨[], rfl⟩
 | x :: l, hb, vs, h => by
  simp only [jQs, Bool.and_eq_true] at hb
  obtain ⟨v, t, rfl, hv, ht⟩ := h
  obtain ⟨bs, rfl⟩ := jEd hb.2 ht
  have h1 := hb.1
  unfold isB at h1
  split at h1
  ·rename_i k lo hi hr
   simp only [Bool.and_eq_true, Nat.blt_eq] at h1
   obtain ⟨n, rfl, g1, g2⟩ := fT hr hv
   obtain rfl := kN h1.1
   refine ⟨UInt8.ofNat n.toNat :: bs, ?_⟩
   simp only [List.map_cons, List.cons.injEq, and_true, Value.int.injEq, true_and]
   rw [UInt8.toNat_ofNat', Nat.mod_eq_of_lt (by omega)]
   omega
  ·cases h1
theorem jXa {k : IntKind} {n : Int} (h0 : 0 ≤ n) (h1 : n ≤ (qBd k : Int)) : k.wrap n = n := by
 cases k <;> simp only [qBd] at h1 <;> simp [IntKind.wrap, IntKind.signed, IntKind.bits] <;> omega
theorem jGg {l : List AV} {s : ByteArray} (hl : RL μ j l (s.data.toList.map fun b => Value.int .u8 b.toNat)) : ∀ {m : List (Nat × Nat × AV)} {es : List MapEntry} {r : Option AV}, EL μ j m es → jMk l m = some r → mR s.size (qZ s.data.toList) m = r
 | [], es, r, _, h => by cases h; rfl
 | (n, v, x) :: m, es, r, hel, h => by
  obtain ⟨e, t, rfl, ⟨u, hk, rfl, rfl⟩, hv, h1, hr⟩ := hel
  have hu : RL μ j (u8s (pL u.size (qZ u.data.toList))) (u.data.toList.map fun b => Value.int .u8 b.toNat) := by
   rw [show u.size = u.data.toList.length from by simp, uV]
   exact lZ _
  simp only [jMk] at h
  split at h
  ·rename_i hb
   cases h
   have := pJ hb hl hu
   simp only [mR, nR, this, if_true]
  ·rename_i hb
   have := pJ hb hl hu
   simp only [mR, nR, this, Bool.false_eq_true, if_false]
   exact jGg hl hr h
  ·cases h
theorem qBo {f : Nat} {xs : List X} {c : C} (hc : jDw P f xs = some c) {vs : List Value} (hv : RL μ j (evs τ xs) vs) {x : AV} (hx : jQ c τ σ = some x) : ∃ v, (callFunc f vs.toArray).run P w = .ok (.value v) w ∧ RV μ j x v := by
 unfold jDw at hc
 split at hc
 ·rename_i hne
  split at hc <;> cases hc
  obtain ⟨v, t, rfl, e2, e3⟩ := hv
  cases e3
  simp only [jQ, Option.some.injEq] at hx; subst hx
  refine ⟨v, ?_, e2⟩
  rw [bP hne rfl (e := Extern.AbiNoEscape.same) (fun fn h => by unfold Extern.find; rw [h]; rfl)]
  rfl
 ·split at hc
  ·rename_i hne
   split at hc <;> cases hc
   obtain ⟨v, t, rfl, e2, e3⟩ := hv
   obtain ⟨v2, t2, rfl, e4, e5⟩ := e3
   cases e5
   simp only [jQ, xXi, vN] at hx
   split at hx <;> first | (cases hx; done) | skip
   rotate_left
   ·rename_i l cc h1 h2
    split at hx <;> first | (cases hx; done) | skip
    rename_i hlt
    split at hx <;> cases hx
    rename_i r hr
    rw [h1] at e2
    rw [h2] at e4
    obtain ⟨s, rfl, g1⟩ := e2
    cases e4
    have hlt' : cc < 256 := by simpa using hlt
    refine ⟨.int .i64 (Lib.indexByte s.data.toList (UInt8.ofNat cc)), ?_, ?_⟩
    ·rw [bP hne rfl (e := Extern.BytealgIndexByte.indexByte) (fun fn h => by unfold Extern.find; rw [h]; rfl)]
     rw [Lib.run_indexByteString]
     rfl
    ·show _ = _
     rw [jOb cc hlt' hr g1]
     congr 1
     split
     ·assumption
     ·simp
   rename_i n u cc h1 h2
   split at hx <;> cases hx
   rename_i hlt
   rw [h1] at e2
   rw [h2] at e4
   obtain ⟨s, rfl, g1, g2⟩ := e2
   cases e4
   have hlt' : cc < 256 := by simpa using hlt
   refine ⟨.int .i64 (Lib.indexByte s.data.toList (UInt8.ofNat cc)), ?_, ?_⟩
   ·rw [bP hne rfl (e := Extern.BytealgIndexByte.indexByte) (fun fn h => by unfold Extern.find; rw [h]; rfl)]
    rw [Lib.run_indexByteString]
    rfl
   ·show _ = _
    rw [← g1, ← g2, show s.size = s.data.toList.length from by simp, uV, jMe cc hlt']
    congr 1
    split
    ·assumption
    ·simp
  ·split at hc
   ·rename_i hne
    split at hc <;> cases hc
    obtain ⟨v, t, rfl, e2, e3⟩ := hv
    obtain ⟨v2, t2, rfl, e4, e5⟩ := e3
    cases e5
    simp only [jQ, xXc, jY] at hx
    split at hx <;> first | (cases hx; done) | skip
    rotate_left
    ·rename_i l cc h1 h2
     split at hx <;> first | (cases hx; done) | skip
     rename_i hlt
     split at hx <;> cases hx
     rename_i r hr
     rw [h1] at e2
     rw [h2] at e4
     obtain ⟨s, rfl, g1⟩ := e2
     cases e4
     have hlt' : cc < 256 := by simpa using hlt
     refine ⟨.int .i64 (Lib.countByte s.data.toList (UInt8.ofNat cc)), ?_, ?_⟩
     ·rw [bP hne rfl (e := Extern.BytealgCount.count) (fun fn h => by unfold Extern.find; rw [h]; rfl)]
      rw [Lib.run_countString]
      rfl
     ·show _ = _
      rw [jDf cc hlt' hr g1]
      rfl
    rename_i n u cc h1 h2
    split at hx <;> cases hx
    rename_i hlt
    rw [h1] at e2
    rw [h2] at e4
    obtain ⟨s, rfl, g1, g2⟩ := e2
    cases e4
    have hlt' : cc < 256 := by simpa using hlt
    refine ⟨.int .i64 (Lib.countByte s.data.toList (UInt8.ofNat cc)), ?_, ?_⟩
    ·rw [bP hne rfl (e := Extern.BytealgCount.count) (fun fn h => by unfold Extern.find; rw [h]; rfl)]
     rw [Lib.run_countString]
     rfl
    ·show _ = _
     rw [← g1, ← g2, show s.size = s.data.toList.length from by simp, uV, jLl cc hlt']
     rfl
   ·split at hc
    ·split at hc <;> cases hc
     cases hx
    ·split at hc
     ·cases hc
      simp only [jQ] at hx; cases hx
     ·split at hc <;> cases hc <;> (simp only [jQ] at hx; cases hx)
theorem nF {s : ByteArray} : ∀ {l : List (Nat × Nat × AV)} {es : List MapEntry} (i : Nat), EL μ j l es → match mR s.size (qZ s.data.toList) l with
  | some x => ∃ (k : Nat) (e : MapEntry), Instr.findNow .string (.string s) es i = some (some (i + k, e.val)) ∧ es[k]? = some e ∧ e.key = .string s ∧ RV μ j x e.val ∧ ∀ (x' : AV) (v' : Value), RV μ j x' v' → x'.one = true → EL μ j (jRq s.size (qZ s.data.toList) x' l) (es.modify k fun e => { e with key := .string s, val := v' })
  | none => Instr.findNow .string (.string s) es i = some none ∧ ∀ (x' : AV) (e' : MapEntry), e'.key = .string s → RV μ j x' e'.val → x'.one = true → EL μ j (jRq s.size (qZ s.data.toList) x' l) (es ++ [e'])
 | [], es, i, h => by
  cases h
  exact ⟨rfl, fun x' e' h1 h2 h3 => ⟨e', [], rfl, ⟨s, h1, rfl, rfl⟩, h2, h3, rfl⟩⟩
 | (n, v, x) :: r, es, i, h => by
  obtain ⟨e, t, rfl, ⟨u, hk, rfl, rfl⟩, hv, h1, hr⟩ := h
  have hkey : eqS s.size (qZ s.data.toList) u.size (qZ u.data.toList) = (s == u) := by
   rw [nR, Bool.eq_iff_iff, beq_iff_eq, MapKept.bytes_beq]
   constructor
   ·intro h
    have : s.data = u.data := by rw [← Array.toList_inj]; exact h
    cases s; cases u; simp at this; rw [this]
   ·rintro rfl; rfl
  simp only [mR, jRq, hkey]
  cases heq : (s == u) with
  | true =>
   obtain rfl : s = u := (MapKept.bytes_beq _ _).1 heq
   simp only [if_true]
   refine ⟨0, e, ?_, rfl, hk, hv, fun x' v' hv' h1' => ⟨_, t, rfl, ⟨s, rfl, rfl, rfl⟩, hv', h1', hr⟩⟩
   have hss : (s == s) = true := (MapKept.bytes_beq _ _).2 rfl
   simp [Instr.findNow, hk, Instr.sameNow, hss]
  | false =>
   simp only [Bool.false_eq_true, if_false]
   have ih := nF (s := s) (i + 1) hr
   have hstep : Instr.findNow .string (.string s) (e :: t) i = Instr.findNow .string (.string s) t (i + 1) := by
    simp [Instr.findNow, hk, Instr.sameNow, heq]
   cases hf : mR s.size (qZ s.data.toList) r with
   | some y =>
    rw [hf] at ih
    obtain ⟨k, e2, g1, g2, g3, g4, g5⟩ := ih
    refine ⟨k + 1, e2, by rw [hstep, g1, show i + 1 + k = i + (k + 1) from by omega], by simpa using g2, g3, g4, fun x' v' hv' h1' => ?_⟩
    exact ⟨e, _, rfl, ⟨u, hk, rfl, rfl⟩, hv, h1, g5 x' v' hv' h1'⟩
   | none =>
    rw [hf] at ih
    obtain ⟨g1, g2⟩ := ih
    exact ⟨by rw [hstep, g1], fun x' e' a1 a2 a3 => ⟨e, _, rfl, ⟨u, hk, rfl, rfl⟩, hv, h1, g2 x' e' a1 a2 a3⟩⟩
theorem qCu (hr : Rel μ B w0 j σ w) (ht : RT μ j τ a) {o : Oper} {t : TypeId} {m k : Operand} {ok : Bool} (ho : o.op = .lookup t m k ok) {kt e : TypeId} (hu : P.underlying t = some (.map kt e)) (hk' : P.underlying kt = some .string) {z : AV} (hz : jQc P e = some z) {m' k' : X} (hm : xOf m = some m') (hkk : xOf k = some k') {x : AV}
  (hx : jQ (.lk ok z m' k') τ σ = some x) : jAz P μ j o a w x := by
 have h1 := jL hm ht
 have h2 := jL hkk ht
 have key : ∃ (b : Nat) (s : ByteArray), m'.ev τ = .mp b ∧ a.eval k = .string s ∧ lkI ok z s.size (qZ s.data.toList) (σ.it.get b) = some x := by
  simp only [jQ, xLk] at hx
  split at hx <;> first | (cases hx; done) | skip
  ·rename_i b n v hb hs
   rw [hs] at h2
   obtain ⟨s, e2, rfl, rfl⟩ := h2
   exact ⟨b, s, hb, e2, hx⟩
  ·rename_i b l hb hs
   rw [hs] at h2
   obtain ⟨s, e2, hl⟩ := h2
   refine ⟨b, s, hb, e2, ?_⟩
   unfold lkS at hx
   split at hx <;> first | (cases hx; done) | skip
   rename_i m hit
   split at hx <;> cases hx
   rename_i r hr'
   obtain ⟨g2, o2, hg2, hBg, hh, es, clock, rfl, hel⟩ := hr.iter b (.mp m) hit
   rw [hit]
   simp only [lkI, jGg hl hel hr']
 obtain ⟨b, s, hb, e2, hx⟩ := key
 rw [hb] at h1
 unfold lkI at hx
 split at hx <;> first | (cases hx; done) | skip
 rename_i l hit
 have hb0 : b ≠ 0 := by
  rintro rfl
  obtain ⟨g2, _, hg2, _⟩ := hr.iter 0 _ hit
  have := (hr.dom 0 g2 hg2).1
  omega
 rcases h1 with ⟨h0, _⟩ | ⟨g, hg, e1⟩
 ·exact absurd h0 hb0
 cases hx
 obtain ⟨g2, o2, hg2, hBg, hh, es, clock, rfl, hel⟩ := hr.iter b (.mp l) hit
 rw [hg] at hg2
 cases hg2
 have hchk : ∀ q, (Instr.checkKey q 10000 kt (.string s)).run P w = .ok () w := by
  intro q
  have h : ∀ d : Nat, (Instr.checkKey q (d + 1) kt (.string s)).run P w = .ok () w := fun d => by simp [Instr.checkKey, run_underlying hk']
  exact h 9999
 have hf := nF (s := s) 0 hel
 have hfk : ∀ r, Instr.findNow .string (.string s) es.toList 0 = some r → (Instr.findKey kt (.string s) es.toList).run P w = .ok r w := by
  intro r hr'
  simp [Instr.findKey, run_underlying hk', hr']
 have hzv : ∃ zv, (zeroValue e).run P w = .ok zv w ∧ RV μ j z zv := by
  unfold jQc at hz
  split at hz <;> first | (cases hz; done) | skip
  rename_i i hi
  split at hz <;> first | (cases hz; done) | skip
  rename_i zv hzv
  exact ⟨zv, by simp [zeroValue, typeInfo, hi, hzv], (jDj hz).1⟩
 obtain ⟨zv, hzr, hzv⟩ := hzv
 cases hfm : mR s.size (qZ s.data.toList) l with
 | some y0 =>
  rw [hfm] at hf
  obtain ⟨q, en, g1, g2, g3, g4, g5⟩ := hf
  cases ok with
  | true =>
   exact ⟨.tuple #[en.val, .bool true], by simp [execOp, ho, Instr.lookup, run_underlying hu, e1, e2, getObj, hh, hchk, hfk _ g1, Sem.run], _, rfl, _, _, rfl, g4, _, _, rfl, rfl, rfl⟩
  | false =>
   exact ⟨en.val, by simp [execOp, ho, Instr.lookup, run_underlying hu, e1, e2, getObj, hh, hchk, hfk _ g1, Sem.run], g4⟩
 | none =>
  rw [hfm] at hf
  obtain ⟨g1, g2⟩ := hf
  cases ok with
  | true =>
   exact ⟨.tuple #[zv, .bool false], by simp [execOp, ho, Instr.lookup, run_underlying hu, e1, e2, getObj, hh, hchk, hfk _ g1, hzr, Sem.run], _, rfl, _, _, rfl, hzv, _, _, rfl, rfl, rfl⟩
  | false =>
   exact ⟨zv, by simp [execOp, ho, Instr.lookup, run_underlying hu, e1, e2, getObj, hh, hchk, hfk _ g1, hzr, Sem.run], hzv⟩
theorem qCs (hr : Rel μ B w0 j σ w) (ht : RT μ j τ a) {o : Oper} {y z : Operand} {t t' : TypeId} (ho : o.op = .call ⟨.builtin .append, #[y, z], #[t, t']⟩) {e : TypeId} {kt : IntKind} (hu : P.underlying t = some (.slice e)) (hu' : P.underlying t' = some (.int kt)) {sz : Nat} (hsz : xQ P e = some sz)
  {y' z' : X} (hy : xOf y = some y') (hz : xOf z = some z') {x : AV} (hx : jQ (.az y' z') τ σ = some x) : jAz P μ j o a w x := by
 have h1 := jL hy ht
 have h2 := jL hz ht
 obtain ⟨i, hi, rfl⟩ := uX hsz
 have w0' : IntKind.i64.wrap 0 = 0 := by decide
 have fin : ∀ A n cap kk, a.eval y = .slice A n cap → n ≤ cap → a.eval z = .int kk 0 → (execOp a.eval o).run P w = .ok (.value (.slice A n cap)) w := by
  intro A n cap kk e1 hle e2
  cases A <;> simp [execOp, ho, resolve, invoke, builtin, Builtin.append_, run_underlying hu, run_underlying hu', e1, e2, sizeOf, typeInfo, hi, asInt, asIntOf, hle, storeCells, w0']
 simp only [jQ, xAz] at hx
 split at hx <;> cases hx
 ·rename_i kk hl hl2
  rw [hl] at h1
  rw [hl2] at h2
  exact ⟨_, fin none 0 0 kk h1 (Nat.le_refl _) h2, rfl⟩
 ·rename_i b off n s kk hl hl2
  rw [hl] at h1
  rw [hl2] at h2
  have key : ∃ A cap, a.eval y = .slice A n cap ∧ n ≤ cap := by
   rcases h1 with ⟨_, rfl, A, c, e0, _⟩ | ⟨g, cap, _, e0, hle, _⟩
   ·exact ⟨_, _, e0, Nat.zero_le _⟩
   ·exact ⟨_, _, e0, hle⟩
  obtain ⟨A, cap, e0, hle⟩ := key
  exact ⟨_, fin A n cap kk e0 hle h2, by rw [← e0]; exact h1⟩
theorem jQj (hμ : yJ μ) (hr : Rel μ B w0 j σ w) (ht : RT μ j τ a) {o : Oper} {c : C} {x : AV} (hc : qQ P o = some c) (hx : jQ c τ σ = some x) : jAz P μ j o a w x := by
 cases ho : o.op
 case move y =>
  simp only [qQ, ho] at hc
  split at hc <;> cases hc
  rename_i y' hy
  simp only [jQ, Option.some.injEq] at hx; subst hx
  exact ⟨_, by simp [execOp, ho], jL hy ht⟩
 case assign y =>
  simp only [qQ, ho] at hc
  split at hc <;> cases hc
  rename_i y' hy
  simp only [jQ, Option.some.injEq] at hx; subst hx
  exact ⟨_, by simp [execOp, ho], jL hy ht⟩
 case pick p q r =>
  simp only [qQ, ho] at hc
  split at hc <;> cases hc
  rename_i p' q' r' hp hq hr'
  have h1 := jL hp ht
  simp only [jQ, xU, xBd, xLd, xNc, xBe, xCi, xBt, kV, xCs, xSs, kW, xSl, fB, xFa, xFd, xIa, xIq, xIx, xIv, xEx, xLn, xMx, xMn] at hx
  split at hx <;> first | (cases hx; done) | skip
  ·rename_i hb
   rw [hb] at h1
   cases hx
   exact ⟨_, by simp [execOp, ho, show a.eval p = .bool true from h1, asBool], jL hq ht⟩
  ·rename_i hb
   rw [hb] at h1
   cases hx
   exact ⟨_, by simp [execOp, ho, show a.eval p = .bool false from h1, asBool], jL hr' ht⟩
 case alloc e =>
  simp only [qQ, ho] at hc
  split at hc <;> cases hc
  cases hx
 case box e y =>
  simp only [qQ, ho] at hc
  split at hc <;> cases hc
  cases hx
 case build t ps =>
  simp only [qQ, ho] at hc
  split at hc
  ·rename_i z fs hz hu
   split at hc
   ·rename_i hs
    split at hc <;> cases hc
    rename_i ps' hps
    simp only [jQ, xU, xBd, xLd, xNc, xBe, xCi, xBt, kV, xCs, xSs, kW, xSl, fB, xFa, xFd, xIa, xIq, xIx, xIv, xEx, xLn, xMx, xMn] at hx
    split at hx <;> cases hx
    rename_i l hl
    obtain ⟨cells, h1, h2⟩ := jHm (w := w) hμ ht hz (.inl ⟨_, hu, hs, hps⟩) hl
    exact jV (s := Instr.build t (ps.map fun (i, x) => (i, a.eval x))) (by simp only [execOp, ho]) h1 ⟨_, rfl, h2⟩
   ·cases hc
  ·rename_i z k e hz hu
   split at hc
   ·rename_i n hn
    split at hc <;> cases hc
    rename_i ps' hps
    simp only [jQ, xU, xBd, xLd, xNc, xBe, xCi, xBt, kV, xCs, xSs, kW, xSl, fB, xFa, xFd, xIa, xIq, xIx, xIv, xEx, xLn, xMx, xMn] at hx
    split at hx <;> cases hx
    rename_i l hl
    obtain ⟨cells, h1, h2⟩ := jHm (w := w) hμ ht hz (.inr ⟨_, _, _, hu, hn, hps⟩) hl
    exact jV (s := Instr.build t (ps.map fun (i, x) => (i, a.eval x))) (by simp only [execOp, ho]) h1 ⟨_, rfl, h2⟩
   ·cases hc
  ·cases hc
 case buildSlice t n ps =>
  simp only [qQ, ho] at hc
  (repeat' split at hc) <;> first | (cases hc; cases hx; done) | (cases hc; done)
 case load t y =>
  simp only [qQ, ho] at hc
  split at hc <;> cases hc
  rename_i n y' hn hy
  have h1 := jL hy ht
  simp only [jQ, xU, xBd, xLd, xNc, xBe, xCi, xBt, kV, xCs, xSs, kW, xSl, fB, xFa, xFd, xIa, xIq, xIx, xIv, xEx, xLn, xMx, xMn] at hx
  split at hx <;> first | (cases hx; done) | skip
  ·rename_i b off hb
   rw [hb] at h1
   obtain ⟨g, hg, he⟩ := h1
   obtain ⟨v, hv, hrv⟩ := aE (P := P) hr hn hg hx
   exact jV (s := Instr.loadAt t (a.eval y)) (by simp only [execOp, ho]) (by simp [Instr.loadAt, Instr.sureAddr, he, hv]) hrv
  ·rename_i z hb
   rw [hb] at h1
   obtain ⟨bk, of, cs, e, fz, he, hh, hc⟩ := h1
   split at hx <;> cases hx
   have hw := hr.heldW _ _ hh
   have hcell : w.cell? ⟨bk, of, none⟩ = some (.int .i64 z) := by simp [World.cell?, hw, hc]
   rcases dU hn with ⟨k, e2, _⟩ | ⟨_, ha⟩
   ·cases e2
   ·exact jV (s := Instr.loadAt t (a.eval y)) (by simp only [execOp, ho]) (v := .int .i64 z) (by simp [Instr.loadAt, Instr.sureAddr, he, loadVar, vJ ha, hcell]) rfl
 case store t y z =>
  simp only [qQ, ho] at hc
  split at hc <;> cases hc
  cases hx
 case nilCheck y =>
  simp only [qQ, ho] at hc
  split at hc <;> cases hc
  rename_i y' hy
  have h1 := jL hy ht
  simp only [jQ, xU, xBd, xLd, xNc, xBe, xCi, xBt, kV, xCs, xSs, kW, xSl, fB, xFa, xFd, xIa, xIq, xIx, xIv, xEx, xLn, xMx, xMn] at hx
  split at hx <;> cases hx
  ·rename_i b off hb
   rw [hb] at h1
   obtain ⟨g, hg, he⟩ := h1
   exact ⟨_, by simp [execOp, ho, he], g, hg, rfl⟩
  ·rename_i f l1 l2 hb
   rw [hb] at h1
   obtain ⟨va, vc, he, h2, h3⟩ := h1
   exact ⟨.func (.func f) va vc, by simp [execOp, ho, he], va, vc, rfl, h2, h3⟩
 case binOp op t y z yt =>
  simp only [qQ, ho] at hc
  split at hc
  ·rename_i y' z' hy hz
   have h1 := jL hy ht
   have h2 := jL hz ht
   have plain : c = .bi op y' z' → jAz P μ j o a w x := by
    intro e
    subst e
    simp only [jQ, xU, xBd, xLd, xNc, xBe, xCi, xBt, kV, xCs, xSs, kW, xSl, fB, xFa, xFd, xIa, xIq, xIx, xIv, xEx, xLn, xMx, xMn] at hx
    obtain ⟨r, h3, h4⟩ := jNy (P := P) (w := w) hx t h1 h2 y z
    exact jV (s := do eqGuard op t y z (a.eval y) (a.eval z); binOp op t (a.eval y) (a.eval z)) (by simp only [execOp, ho]) h3 h4
   split at hc
   ·exact jXy hr ht ho (g := false) rfl hy hz hc hx
   ·exact jXy hr ht ho (g := true) rfl hy hz hc hx
   ·simp only [Option.some.injEq] at hc
    exact plain hc.symm
  ·cases hc
 case unOp op t y =>
  simp only [qQ, ho] at hc
  split at hc <;> cases hc
  rename_i y' hy
  have h1 := jL hy ht
  simp only [jQ, xU, xBd, xLd, xNc, xBe, xCi, xBt, kV, xCs, xSs, kW, xSl, fB, xFa, xFd, xIa, xIq, xIx, xIv, xEx, xLn, xMx, xMn, unA] at hx
  split at hx
  ·rename_i k n he
   rw [he] at h1
   simp only [uH, Option.some.injEq] at hx; subst hx
   exact jV (s := Op.unary .neg (a.eval y)) (by simp only [execOp, ho]) (v := .int k (k.wrap (0 - n))) (by simp [show a.eval y = .int k n from h1, Op.unary, Op.intArith]) rfl
  ·rename_i b he
   rw [he] at h1
   cases hx
   exact jV (s := Op.unary .not (a.eval y)) (by simp only [execOp, ho]) (v := .bool (!b)) (by simp [show a.eval y = .bool b from h1, Op.unary]) rfl
  ·rename_i k n he
   rw [he] at h1
   simp only [mS, uH, Option.some.injEq] at hx; subst hx
   refine jV (s := Op.unary .xor (a.eval y)) (by simp only [execOp, ho]) (v := .int k (k.wrap (Int.ofNat (BitVec.ofInt k.bits (if k.signed then -1 else k.max) ^^^ BitVec.ofInt k.bits n).toNat))) ?_ rfl
   rw [show a.eval y = .int k n from h1]
   simp only [Op.unary, Op.intBits]
   exact Sem.run_pure P w _
  ·cases hx
 case convert src dst y =>
  simp only [qQ, ho] at hc
  split at hc
  ·rename_i k1 k y' hs hd hy
   cases hc
   have h1 := jL hy ht
   simp only [jQ, xU, xBd, xLd, xNc, xBe, xCi, xBt, kV, xCs, xSs, kW, xSl, fB, xFa, xFd, xIa, xIq, xIx, xIv, xEx, xLn, xMx, xMn] at hx
   split at hx <;> first | (cases hx; done) | skip
   rotate_left
   ·rename_i q k2 lo hi he
    split at hx <;> cases hx
    rename_i hle
    rw [he] at h1
    obtain ⟨n, e0, e1, g1, g2⟩ := h1
    rw [Nat.ble_eq] at hle
    have hw : k.wrap n = n := jXa (by omega) (by omega)
    exact jV (s := convert src dst (a.eval y)) (by simp only [execOp, ho]) (v := .int k (k.wrap n)) (by simp [e1, convert, run_underlying hs, run_underlying hd, Conv.intToInt]) ⟨n, e0, by rw [hw], g1, g2⟩
   rename_i k2 n he
   rw [he] at h1
   simp only [uH, Option.some.injEq] at hx; subst hx
   exact jV (s := convert src dst (a.eval y)) (by simp only [execOp, ho]) (v := .int k (k.wrap n)) (by simp [show a.eval y = .int k2 n from h1, convert, run_underlying hs, run_underlying hd, Conv.intToInt]) rfl
  ·rename_i k1 y' hs hd hy
   cases hc
   have h1 := jL hy ht
   simp only [jQ, xIs] at hx
   split at hx <;> first | (cases hx; done) | skip
   rename_i k2 n he
   rw [he] at h1
   rw [qCo, gA] at hx
   cases hx
   exact jV (s := convert src dst (a.eval y)) (by simp only [execOp, ho]) (v := .string (Utf8.encode n)) (by simp [show a.eval y = .int k2 n from h1, convert, run_underlying hs, run_underlying hd, Conv.intToString]) ⟨_, rfl, by simp, rfl⟩
  ·rename_i y' hs hd hy
   cases hc
   have h1 := jL hy ht
   simp only [jQ, xU, xBd, xLd, xNc, xBe, xCi, xBt, kV, xCs, xSs, kW, xSl, fB, xFa, xFd, xIa, xIq, xIx, xIv, xEx, xLn, xMx, xMn] at hx
   split at hx <;> cases hx
   rotate_left
   ·rename_i l he
    rw [he] at h1
    obtain ⟨s, e1, e2⟩ := h1
    exact jV (s := convert src dst (a.eval y)) (by simp only [execOp, ho]) (v := .string s) (by simp [e1, convert, run_underlying hs, run_underlying hd]) ⟨s, rfl, e2⟩
   rename_i n v he
   rw [he] at h1
   obtain ⟨s, e1, e2, e3⟩ := h1
   exact jV (s := convert src dst (a.eval y)) (by simp only [execOp, ho]) (v := .string s) (by simp [e1, convert, run_underlying hs, run_underlying hd]) ⟨s, rfl, e2, e3⟩
  ·split at hc <;> cases hc
   cases hx
  ·(repeat' split at hc) <;> first | (cases hc; done) | (cases hc; cases hx; done)
  ·rename_i e y' hs hd hy
   split at hc <;> cases hc
   rename_i hue
   have h1 := jL hy ht
   simp only [jQ, xU, xBd, xLd, xNc, xBe, xCi, xBt, kV, xCs, xSs, kW, xSl, fB, xFa, xFd, xIa, xIq, xIx, xIv, xEx, xLn, xMx, xMn] at hx
   split at hx
   ·rename_i he
    rw [he] at h1
    cases hx
    exact jV (s := convert src dst (a.eval y)) (by simp only [execOp, ho]) (v := .string .empty) (by simp [show a.eval y = .slice none 0 0 from h1, convert, run_underlying hs, run_underlying hd, run_underlying hue, Conv.bytesToString]) ⟨_, rfl, rfl, rfl⟩
   ·rename_i b off n sz he
    rw [he] at h1
    split at hx
    ·rename_i hn
     have hn' : n = 0 := by simpa using hn
     subst hn'
     cases hx
     rcases h1 with ⟨_, _, ad, cap, e1, _⟩ | ⟨g, cap, _, e1, _⟩
     ·exact jV (s := convert src dst (a.eval y)) (by simp only [execOp, ho]) (v := .string .empty) (by simp [e1, convert, run_underlying hs, run_underlying hd, run_underlying hue, Conv.bytesToString, loadCells, loadCellsFrom]) ⟨_, rfl, rfl, rfl⟩
     ·exact jV (s := convert src dst (a.eval y)) (by simp only [execOp, ho]) (v := .string .empty) (by simp [e1, convert, run_underlying hs, run_underlying hd, run_underlying hue, Conv.bytesToString, loadCells, loadCellsFrom]) ⟨_, rfl, rfl, rfl⟩
    ·rename_i hn
     split at hx
     ·rename_i hsz
      split at hx
      ·rename_i l hl
       split at hx
       ·rename_i r hrb
        cases hx
        rcases h1 with ⟨_, e0, _⟩ | ⟨g, cap, hg, e1, _⟩
        ·subst e0; simp at hn
        ·obtain ⟨vs, hlen, hrl, _, _, hcell⟩ := hr.load hl hg
         obtain ⟨bs, e2, e3⟩ := dX hrb hrl
         obtain ⟨s, hrun, hsb⟩ := vE (P := P) (w := w) ⟨g.c, off, none⟩ bs cap (by rw [← e2]; exact hcell)
         have hbl : bs.length = n := by rw [← hlen, e2]; simp
         rw [hbl] at hrun
         exact jV (s := convert src dst (a.eval y)) (by simp only [execOp, ho]) (v := .string s) (by simp [e1, convert, run_underlying hs, run_underlying hd, run_underlying hue, hrun]) ⟨_, rfl, by rw [← hbl, ← hsb]; simp, by rw [hsb]; exact e3⟩
       ·split at hx <;> cases hx
        rename_i hall
        rcases h1 with ⟨_, e0, _⟩ | ⟨g, cap, hg, e1, _⟩
        ·subst e0; simp at hn
        ·obtain ⟨vs, hlen, hrl, _, _, hcell⟩ := hr.load hl hg
         obtain ⟨bs, e2⟩ := jEd hall hrl
         obtain ⟨s, hrun, hsb⟩ := vE (P := P) (w := w) ⟨g.c, off, none⟩ bs cap (by rw [← e2]; exact hcell)
         have hbl : bs.length = n := by rw [← hlen, e2]; simp
         rw [hbl] at hrun
         exact jV (s := convert src dst (a.eval y)) (by simp only [execOp, ho]) (v := .string s) (by simp [e1, convert, run_underlying hs, run_underlying hd, run_underlying hue, hrun]) ⟨_, rfl, by rw [hsb, ← e2]; exact hrl⟩
      ·cases hx
     ·cases hx
   ·cases hx
  ·rename_i t y' hs hd hy
   unfold tC at hc
   split at hc <;> first | (cases hc; done) | skip
   rename_i n hn
   split at hc <;> cases hc
   rename_i hnz
   obtain ⟨i, hi, rfl⟩ := uX hn
   exact (jFy hr ht ho hy).1 t hs hd i hi (by simpa using hnz) hx
  ·rename_i u y' hs hd hy
   unfold tC at hc
   split at hc <;> first | (cases hc; done) | skip
   rename_i n hn
   split at hc <;> cases hc
   rename_i hnz
   obtain ⟨i, hi, rfl⟩ := uX hn
   exact (jFy hr ht ho hy).2 u hs hd i hi (by simpa using hnz) hx
  ·cases hc
 case makeFunc fn f1 f2 =>
  cases fn with
  | func fid =>
   simp only [qQ, ho] at hc
   split at hc <;> cases hc
   rename_i l1 l2 h1 h2
   simp only [jQ, Option.some.injEq] at hx; subst hx
   exact jV (s := Instr.makeFunc (.func fid) (f1.map a.eval) (f2.map a.eval)) (v := .func (.func fid) (f1.map a.eval) (f2.map a.eval)) (by simp only [execOp, ho]) (by simp [Instr.makeFunc]) ⟨_, _, rfl, by simpa using vV h1 ht, by simpa using vV h2 ht⟩
  | _ => simp only [qQ, ho] at hc; cases hc
 case slice t y lo hi mx =>
  cases mx with
  | some m => simp only [qQ, ho] at hc; cases hc
  | none =>
   simp only [qQ, ho] at hc
   split at hc
   ·rename_i y' lo' hi' hu hy hlo hhi
    cases hc
    have h1 := jL hy ht
    simp only [jQ, xU, xBd, xLd, xNc, xBe, xCi, xBt, kV, xCs, xSs, kW, xSl, fB, xFa, xFd, xIa, xIq, xIx, xIv, xEx, xLn, xMx, xMn] at hx
    split at hx <;> first | (cases hx; done) | skip
    rotate_left
    ·rename_i l he
     rw [he] at h1
     obtain ⟨s, e1, e2⟩ := h1
     unfold qCr at hx
     split at hx <;> first | (cases hx; done) | skip
     rename_i p q hb
     split at hx <;> cases hx
     rename_i l2 hl2
     have hlen := RL.len _ _ e2
     simp only [List.length_map, Array.length_toList] at hlen
     have hsz : gV l 0 = s.size := by rw [vR, Nat.add_zero, ← hlen]; rfl
     rw [hsz] at hb
     obtain ⟨hrun, hle, hle2⟩ := kG (P := P) (w := w) (len := s.size) (cap := s.size) hb (by omega) ht hlo hhi false
     refine jV (s := Instr.sliceAt t (a.eval y) (lo.map a.eval) (hi.map a.eval) (Option.map a.eval none)) (by simp only [execOp, ho]) (v := .string (s.extract p q)) ?_ (jNt ?_)
     ·simp [Instr.sliceAt, Instr.slice, run_underlying hu, e1, hrun]
     ·rw [zD] at hl2
      obtain ⟨rfl, _⟩ := xJ _ _ _ hl2
      have := (e2.drop p).take (q - p)
      have e5 : (s.extract p q).data.toList = (s.data.toList.drop p).take (q - p) := by simp
      rw [e5, List.map_take, List.map_drop]
      exact this
    rename_i n v he
    rw [he] at h1
    obtain ⟨s, e1, e2, e3⟩ := h1
    split at hx <;> first | (cases hx; done) | skip
    rename_i p q hb
    rw [gA] at hx
    cases hx
    obtain ⟨hrun, hle, hle2⟩ := kG (P := P) (w := w) (len := n) (cap := s.size) hb (by omega) ht hlo hhi false
    rw [← e2] at hrun hle2
    refine jV (s := Instr.sliceAt t (a.eval y) (lo.map a.eval) (hi.map a.eval) (Option.map a.eval none)) (by simp only [execOp, ho]) (v := .string (s.extract p q)) ?_ ⟨_, rfl, ?_, ?_⟩
    ·simp [Instr.sliceAt, Instr.slice, run_underlying hu, e1, hrun]
    ·show _ = q - p
     simp; omega
    ·have : (s.extract p q).data.toList = (s.data.toList.drop p).take (q - p) := by
      simp [ByteArray.data_extract, List.extract_eq_take_drop]
     rw [this, jPd, jBp, e3]
     rfl
   ·rename_i e y' lo' hi' hu hy hlo hhi
    split at hc <;> cases hc
    rename_i n hn
    have h1 := jL hy ht
    simp only [jQ, xU, xBd, xLd, xNc, xBe, xCi, xBt, kV, xCs, xSs, kW, xSl, fB, xFa, xFd, xIa, xIq, xIx, xIv, xEx, xLn, xMx, xMn, jY] at hx
    split at hx
    ·rename_i he
     rw [he] at h1
     have e1 : a.eval y = .slice none 0 0 := h1
     split at hx <;> cases hx
     rename_i p hb
     obtain ⟨hrun, hle, hle2⟩ := kG (P := P) (w := w) (len := 0) (cap := 0) hb (by omega) ht hlo hhi true
     refine jV (s := Instr.sliceAt t (a.eval y) (lo.map a.eval) (hi.map a.eval) (Option.map a.eval none)) (by simp only [execOp, ho]) (v := .slice none 0 0) ?_ rfl
     have e0 : p.1 = 0 := by omega
     have e00 : p.2 = 0 := by omega
     simp [Instr.sliceAt, Instr.slice, run_underlying hu, e1, hrun, run_sizeOf hn, e0, e00]
    ·rename_i b off len sz he
     rw [he] at h1
     split at hx <;> first | (cases hx; done) | skip
     rename_i hsz
     obtain rfl : n = sz := by simpa using hsz
     split at hx <;> first | (cases hx; done) | skip
     rename_i p q hb
     rcases h1 with ⟨e0, e00, ad, cap, e1, hcap⟩ | ⟨g, cap, hg, e1, hlen, hcap, htot⟩
     ·subst e00
      obtain ⟨hrun, hle, hle2⟩ := kG (P := P) (w := w) (len := 0) (cap := cap) hb (by omega) ht hlo hhi true
      obtain rfl : p = 0 := by omega
      obtain rfl : q = 0 := by omega
      simp only [Nat.beq_refl, if_true, Option.some.injEq] at hx; subst hx
      subst e0
      refine jV (s := Instr.sliceAt t (a.eval y) (lo.map a.eval) (hi.map a.eval) (Option.map a.eval none)) (by simp only [execOp, ho]) (v := .slice (if cap = 0 then some ad else some (ad.add (0 * n))) (0 - 0) (cap - 0)) ?_ (.inl ⟨rfl, rfl, if cap = 0 then ad else ad.add (0 * n), cap, by split <;> simp, hcap⟩)
      simp [Instr.sliceAt, Instr.slice, run_underlying hu, e1, hrun, run_sizeOf hn]
     ·obtain ⟨hrun, hle, hle2⟩ := kG (P := P) (w := w) (len := len) (cap := cap) hb hlen ht hlo hhi true
      refine jV (s := Instr.sliceAt t (a.eval y) (lo.map a.eval) (hi.map a.eval) (Option.map a.eval none)) (by simp only [execOp, ho]) (v := .slice (if cap = p then some ⟨g.c, off, none⟩ else some ((⟨g.c, off, none⟩ : Addr).add (p * n))) (q - p) (cap - p)) ?_ ?_
      ·simp [Instr.sliceAt, Instr.slice, run_underlying hu, e1, hrun, run_sizeOf hn]
      ·split at hx
       ·rename_i hpq
        obtain rfl : p = q := by simpa using hpq
        split at hx
        ·rename_i hp0
         obtain rfl : p = 0 := by simpa using hp0
         cases hx
         refine .inr ⟨g, cap, hg, ?_, by omega, by omega, htot⟩
         rw [kP]
         simp
        cases hx
        refine .inl ⟨rfl, rfl, (if cap = p then ⟨g.c, off, none⟩ else ((⟨g.c, off, none⟩ : Addr).add (p * n))), cap - p, ?_, by omega⟩
        rw [Nat.sub_self]
        split <;> rfl
       ·rename_i hpq
        have hpq' : p ≠ q := by simpa using hpq
        cases hx
        refine .inr ⟨g, cap - p, hg, ?_, by omega, by omega, ?_⟩
        ·rw [if_neg (by omega), kP]
        ·rw [← htot, Nat.sub_mul]
         have : p * n ≤ cap * n := Nat.mul_le_mul_right _ (by omega)
         omega
    ·cases hx
   ·cases hc
 case fieldAddr t y f =>
  simp only [qQ, ho] at hc
  split at hc
  ·rename_i fs y' hu hy
   split at hc <;> first | (cases hc; done) | skip
   rename_i fd hf
   split at hc <;> first | (cases hc; done) | skip
   rename_i n hn
   split at hc <;> cases hc
   rename_i hnz
   have hnz' : n ≠ 0 := by simpa using hnz
   have h1 := jL hy ht
   simp only [jQ, xU, xBd, xLd, xNc, xBe, xCi, xBt, kV, xCs, xSs, kW, xSl, fB, xFa, xFd, xIa, xIq, xIx, xIv, xEx, xLn, xMx, xMn, jY] at hx
   split at hx <;> cases hx
   rename_i b off hb
   rw [hb] at h1
   obtain ⟨g, hg, he⟩ := h1
   exact jV (s := Instr.fieldAt t (a.eval y) f) (by simp only [execOp, ho]) (v := .pointer (some ⟨g.c, off + fd.offset, none⟩)) (by simp [Instr.fieldAt, run_underlying hu, hf, he, Instr.sureAddr, fieldPlace, run_sizeOf hn, hnz', kP]) ⟨g, hg, rfl⟩
  ·cases hc
 case field t y f =>
  simp only [qQ, ho] at hc
  split at hc
  ·rename_i fs y' hu hy
   split at hc <;> first | (cases hc; done) | skip
   rename_i fd hf
   split at hc <;> cases hc
   rename_i n hn
   have h1 := jL hy ht
   simp only [jQ, xU, xBd, xLd, xNc, xBe, xCi, xBt, kV, xCs, xSs, kW, xSl, fB, xFa, xFd, xIa, xIq, xIx, xIv, xEx, xLn, xMx, xMn] at hx
   split at hx <;> first | (cases hx; done) | skip
   rename_i l hl
   rw [hl] at h1
   obtain ⟨cs, e1, e2⟩ := h1
   obtain ⟨v, hv, hrv⟩ := jLa (w := w) hn e2 hx
   exact jV (s := Instr.field t (a.eval y) f) (by simp only [execOp, ho]) (v := v) (by simp [Instr.field, run_underlying hu, hf, e1, asAgg, hv]) hrv
  ·cases hc
 case indexAddr t y i =>
  simp only [qQ, ho] at hc
  split at hc
  ·rename_i e y' i' hu hy hi
   split at hc <;> cases hc
   rename_i n hn
   have h1 := jL hy ht
   have h2 := jL hi ht
   simp only [jQ, xU, xBd, xLd, xNc, xBe, xCi, xBt, kV, xCs, xSs, kW, xSl, fB, xFa, xFd, xIa, xIq, xIx, xIv, xEx, xLn, xMx, xMn, jY] at hx
   split at hx <;> first | (cases hx; done) | skip
   rotate_left
   ·rename_i l k hl hk
    rw [hl] at h1
    obtain ⟨kd, e2⟩ := kZ hk h2
    split at hx <;> first | (cases hx; done) | skip
    rename_i hz1
    have hz1 : n = 1 := Nat.eq_of_beq_eq_true hz1
    subst hz1
    split at hx <;> cases hx
    rename_i z hz
    rw [vT] at hz
    have hlt' : k < l.length := (List.getElem?_eq_some_iff.1 hz).1
    obtain ⟨a0, c, e1, hA⟩ := h1
    obtain ⟨bk, of, cs, e, fz, ea, hh, hc⟩ := hA (by intro q; subst q; simp at hlt')
    subst ea
    exact jV (s := Instr.indexAt t (a.eval y) (a.eval i)) (by simp only [execOp, ho]) (v := .pointer (some ⟨bk, of + k * 1, none⟩)) (by simp [Instr.indexAt, e1, e2, asIntOf, run_underlying hu, hlt', run_sizeOf hn, kP]) ⟨bk, of + k * 1, cs, e, fz, rfl, hh, by rw [Nat.mul_one]; exact hc k z hz⟩
   rename_i b off len sz k hl hk
   rw [hl] at h1
   obtain ⟨kd, e2⟩ := kZ hk h2
   split at hx <;> cases hx
   rename_i hlt
   have hlt' : k < len := by simpa using hlt
   rcases h1 with ⟨_, e00, _⟩ | ⟨g, cap, hg, e1, _⟩
   ·omega
   ·exact jV (s := Instr.indexAt t (a.eval y) (a.eval i)) (by simp only [execOp, ho]) (v := .pointer (some ⟨g.c, off + k * n, none⟩)) (by simp [Instr.indexAt, e1, e2, asIntOf, run_underlying hu, hlt', run_sizeOf hn, kP]) ⟨g, hg, rfl⟩
  ·rename_i len e y' i' hu hy hi
   split at hc <;> cases hc
   rename_i n hn
   have h1 := jL hy ht
   have h2 := jL hi ht
   simp only [jQ, xU, xBd, xLd, xNc, xBe, xCi, xBt, kV, xCs, xSs, kW, xSl, fB, xFa, xFd, xIa, xIq, xIx, xIv, xEx, xLn, xMx, xMn, jY] at hx
   split at hx <;> first | (cases hx; done) | skip
   rename_i b off k hl hk
   rw [hl] at h1
   obtain ⟨kd, e2⟩ := kZ hk h2
   obtain ⟨g, hg, e1⟩ := h1
   split at hx <;> cases hx
   rename_i hlt
   have hlt' : k < len := by simpa using hlt
   exact jV (s := Instr.indexAt t (a.eval y) (a.eval i)) (by simp only [execOp, ho]) (v := .pointer (some ⟨g.c, off + k * n, none⟩)) (by simp [Instr.indexAt, e1, e2, asIntOf, run_underlying hu, hlt', run_sizeOf hn, kP, Instr.sureAddr]) ⟨g, hg, rfl⟩
  ·cases hc
 case index t y i =>
  simp only [qQ, ho] at hc
  split at hc
  ·rename_i y' i' hu hy hi
   cases hc
   have h1 := jL hy ht
   have h2 := jL hi ht
   simp only [jQ, xU, xBd, xLd, xNc, xBe, xCi, xBt, kV, xCs, xSs, kW, xSl, fB, xFa, xFd, xIa, xIq, xIx, xIv, xEx, xLn, xMx, xMn, jY] at hx
   split at hx <;> first | (cases hx; done) | skip
   rotate_left
   ·rename_i l k hl hk
    rw [hl] at h1
    obtain ⟨s, e1, e3⟩ := h1
    obtain ⟨kd, e2⟩ := kZ hk h2
    rw [vT] at hx
    obtain ⟨v, hv, hrv⟩ := RL.nth _ _ e3 _ _ hx
    rw [List.getElem?_map, Option.map_eq_some_iff] at hv
    obtain ⟨b, hbl, rfl⟩ := hv
    have hk' : k < s.size := by
     have := (List.getElem?_eq_some_iff.1 hbl).1
     simpa using this
    have hb' : s[k]? = some s[k] := getElem?_pos s k hk'
    have hbl2 : s.data.toList[k]? = some s[k] := by
     rw [List.getElem?_eq_getElem (by simpa using hk')]; rfl
    rw [hbl2] at hbl
    cases hbl
    exact jV (s := Instr.index t (a.eval y) (a.eval i)) (by simp only [execOp, ho]) (v := .int .u8 s[k].toNat) (by simp [Instr.index, e1, e2, asIntOf, run_underlying hu, hb']) hrv
   rename_i n v k hl hk
   rw [hl] at h1
   obtain ⟨s, e1, e3, e4⟩ := h1
   obtain ⟨kd, e2⟩ := kZ hk h2
   split at hx <;> cases hx
   rename_i hlt
   have hk' : k < s.size := by rw [e3]; simpa using hlt
   have hb' : s[k]? = some s[k] := getElem?_pos s k hk'
   have hbl : s.data.toList[k]? = some s[k] := by
    rw [List.getElem?_eq_getElem (by simpa using hk')]; rfl
   refine jV (s := Instr.index t (a.eval y) (a.eval i)) (by simp only [execOp, ho]) (v := .int .u8 s[k].toNat) (by simp [Instr.index, e1, e2, asIntOf, run_underlying hu, hb']) ?_
   show _ = _
   rw [← jIf hbl, e4]
   rfl
  ·rename_i len e y' i' hu hy hi
   split at hc <;> cases hc
   rename_i n g hn hg
   have h1 := jL hy ht
   have h2 := jL hi ht
   simp only [jQ, xU, xBd, xLd, xNc, xBe, xCi, xBt, kV, xCs, xSs, kW, xSl, fB, xFa, xFd, xIa, xIq, xIx, xIv, xEx, xLn, xMx, xMn] at hx
   split at hx <;> first | (cases hx; done) | skip
   rename_i l k hl hk
   rw [hl] at h1
   obtain ⟨cs, e1, e3⟩ := h1
   obtain ⟨kd, e2⟩ := kZ hk h2
   split at hx <;> first | (cases hx; done) | skip
   rename_i hlt
   have hlt' : k < len := by simpa using hlt
   obtain ⟨v, hv, hrv⟩ := jLa (P := P) (w := w) (t := e) (n := if g then some n else none) (by unfold dD; rw [hg, hn]; cases g <;> rfl) e3 hx
   exact jV (s := Instr.index t (a.eval y) (a.eval i)) (by simp only [execOp, ho]) (v := v) (by simp [Instr.index, e1, e2, asIntOf, run_underlying hu, hlt', run_sizeOf hn, hv]) hrv
  ·cases hc
 case makeInterface t y =>
  simp only [qQ, ho] at hc
  split at hc <;> cases hc
  rename_i u y' hne hu hy
  have h1 := jL hy ht
  simp only [jQ, Option.some.injEq] at hx; subst hx
  refine jV (s := Instr.makeInterface t (a.eval y)) (by simp only [execOp, ho]) (v := .iface t (a.eval y)) ?_ ⟨_, rfl, h1⟩
  unfold Instr.makeInterface
  simp only [Sem.run_bind, run_underlying hu, Result.andThen_ok]
  rfl
 case typeAssert y xt t ok =>
  cases ok <;> simp only [qQ, ho] at hc
  ·split at hc <;> cases hc
   rename_i u y' hne hu hy
   have h1 := jL hy ht
   simp only [jQ, xTa] at hx
   split at hx <;> first | (cases hx; done) | skip
   rename_i ti vi hl
   split at hx <;> cases hx
   rename_i heq
   obtain rfl := Nat.eq_of_beq_eq_true heq
   rw [hl] at h1
   obtain ⟨v, e1, hv⟩ := h1
   refine jV (s := Instr.typeAssert (a.eval y) xt ti false) (by simp only [execOp, ho]) (v := v) ?_ hv
   rw [show a.eval y = .iface ti v from e1]
   unfold Instr.typeAssert
   simp only [Sem.run_bind, run_underlying hu, Result.andThen_ok]
   cases u <;> first | exact absurd rfl (hne _) | simp
  ·split at hc <;> cases hc
   rename_i u z' y' hne hu hz hy
   have h1 := jL hy ht
   have hzv : ∃ zv, (zeroValue t).run P w = .ok zv w ∧ RV μ j z' zv := by
    unfold jYb at hz
    split at hz <;> first | (cases hz; done) | skip
    rename_i i hi
    split at hz <;> first | (cases hz; done) | skip
    rename_i zv hzv
    exact ⟨zv, by simp [zeroValue, typeInfo, hi, hzv], jOg hz⟩
   obtain ⟨zv, hzr, hzv⟩ := hzv
   simp only [jQ, xTk] at hx
   split at hx <;> first | (cases hx; done) | skip
   ·rename_i ti vi hl
    rw [hl] at h1
    obtain ⟨v, e1, hv⟩ := h1
    cases hx
    by_cases heq : ti = t
    ·have hb : Nat.beq ti t = true := by simpa using heq
     refine jV (s := Instr.typeAssert (a.eval y) xt t true) (by simp only [execOp, ho]) (v := .tuple #[v, .bool true]) ?_ (by rw [hb]; exact ⟨_, rfl, _, _, rfl, hv, _, _, rfl, rfl, rfl⟩)
     rw [e1]
     unfold Instr.typeAssert
     simp only [Sem.run_bind, run_underlying hu, Result.andThen_ok]
     cases u <;> first | exact absurd rfl (hne _) | simp [heq]
    ·have hb : Nat.beq ti t = false := Bool.eq_false_iff.mpr fun h => heq (Nat.eq_of_beq_eq_true h)
     refine jV (s := Instr.typeAssert (a.eval y) xt t true) (by simp only [execOp, ho]) (v := .tuple #[zv, .bool false]) ?_ (by rw [hb]; exact ⟨_, rfl, _, _, rfl, hzv, _, _, rfl, rfl, rfl⟩)
     rw [e1]
     unfold Instr.typeAssert
     simp only [Sem.run_bind, run_underlying hu, Result.andThen_ok]
     cases u <;> first | exact absurd rfl (hne _) | simp [heq, hzr]
   ·rename_i hl
    rw [hl] at h1
    have e1 : a.eval y = .nilIface := h1
    cases hx
    refine jV (s := Instr.typeAssert (a.eval y) xt t true) (by simp only [execOp, ho]) (v := .tuple #[zv, .bool false]) ?_ ⟨_, rfl, _, _, rfl, hzv, _, _, rfl, rfl, rfl⟩
    rw [e1]
    unfold Instr.typeAssert
    simp only [Sem.run_bind, run_underlying hu, Result.andThen_ok]
    cases u <;> first | exact absurd rfl (hne _) | simp [hzr]
 case extract y i =>
  simp only [qQ, ho] at hc
  split at hc <;> cases hc
  rename_i y' hy
  have h1 := jL hy ht
  simp only [jQ, xU, xBd, xLd, xNc, xBe, xCi, xBt, kV, xCs, xSs, kW, xSl, fB, xFa, xFd, xIa, xIq, xIx, xIv, xEx, xLn, xMx, xMn, vT] at hx
  split at hx <;> first | (cases hx; done) | skip
  rename_i l hl
  rw [hl] at h1
  obtain ⟨cs, e1, e3⟩ := h1
  obtain ⟨v, hv, hrv⟩ := jKr e3 hx
  exact jV (s := Instr.extract (a.eval y) i) (by simp only [execOp, ho]) (v := v) (by simp [Instr.extract, e1, hv]) hrv
 case call cl =>
  obtain ⟨callee, args, argTypes⟩ := cl
  cases callee with
  | invoke r m =>
   simp only [qQ, ho] at hc
   (repeat' split at hc) <;> first | (cases hc; done) | (cases hc; simp only [jQ] at hx; cases hx; done)
  | value f =>
   cases f with
   | func f =>
    simp only [qQ, ho] at hc
    split at hc <;> first | (cases hc; done) | skip
    rename_i xs hxs
    obtain ⟨v, h1, h2⟩ := qBo (w := w) hc (vV hxs ht) hx
    have e : (args.toList.map a.eval).toArray = args.map a.eval := by rw [← Array.toList_map, Array.toArray_toList]
    rw [e] at h1
    exact ⟨v, by simp [execOp, ho, resolve, Act.eval, Deferred.ofValue, invoke, h1], h2⟩
   | _ => simp only [qQ, ho] at hc <;> (repeat' split at hc) <;> first | (cases hc; done) | (cases hc; simp only [jQ] at hx; cases hx; done)
  | builtin bi =>
   cases bi <;> simp only [qQ, ho] at hc <;> first | (cases hc; done) | skip
   case append =>
    split at hc <;> first | (cases hc; done) | skip
    rename_i t t' y z hat har
    have hat' : argTypes = #[t, t'] := by rw [← Array.toList_inj]; exact hat
    have har' : args = #[y, z] := by rw [← Array.toList_inj]; exact har
    subst hat'; subst har'
    split at hc
    ·(repeat' split at hc) <;> first | (cases hc; done) | (cases hc; simp only [jQ] at hx; cases hx; done)
    ·split at hc <;> first | (cases hc; done) | skip
     ·split at hc <;> cases hc
      simp only [jQ] at hx; cases hx
     ·rename_i e kt y' z' hu hu' hy hz
      split at hc <;> cases hc
      rename_i sz hsz
      exact qCs hr ht ho hu hu' hsz hy hz hx
   case cap =>
    split at hc <;> first | (cases hc; done) | skip
    rename_i t y hat har
    have hat' : argTypes = #[t] := by rw [← Array.toList_inj]; exact hat
    have har' : args = #[y] := by rw [← Array.toList_inj]; exact har
    subst hat'; subst har'
    split at hc <;> cases hc
    rename_i e y' hu hy
    have h1 := jL hy ht
    simp only [jQ, xCn] at hx
    split at hx <;> cases hx
    rename_i hl
    rw [hl] at h1
    have e1 : a.eval y = .slice none 0 0 := h1
    exact ⟨.int .i64 0, by simp [execOp, ho, resolve, invoke, builtin, Builtin.cap_, run_underlying hu, e1, goInt], rfl⟩
   case copy =>
    split at hc <;> first | (cases hc; done) | skip
    rename_i t t' y z hat har
    have hat' : argTypes = #[t, t'] := by rw [← Array.toList_inj]; exact hat
    have har' : args = #[y, z] := by rw [← Array.toList_inj]; exact har
    subst hat'; subst har'
    split at hc <;> first | (cases hc; done) | skip
    rename_i e e' y' z' hu hu' hy hz
    split at hc <;> cases hc
    rename_i sz hsz
    have h1 := jL hy ht
    have h2 := jL hz ht
    have fin : ∀ A n c, a.eval y = .slice A n c → a.eval z = .slice none 0 0 → ∃ v, (execOp a.eval o).run P w = .ok (.value v) w ∧ RV μ j (.i .i64 0) v := by
     intro A n c e1 e2
     refine ⟨.int .i64 0, ?_, rfl⟩
     have hm : Nat.min 0 n = 0 := by simp
     cases A <;> simp [execOp, ho, resolve, invoke, builtin, Builtin.copy_, run_underlying hu, e1, e2, goInt, Builtin.lenOf, hm, run_sizeOf hsz, Builtin.firstCells, storeCells]
    simp only [jQ, xCy] at hx
    split at hx <;> cases hx
    ·rename_i b off n s hl hl2
     rw [hl] at h1
     rw [hl2] at h2
     rcases h1 with ⟨_, rfl, ad, cap, e1, _⟩ | ⟨g, cap, _, e1, _⟩
     ·exact fin _ _ _ e1 h2
     ·exact fin _ _ _ e1 h2
    ·rename_i hl hl2
     rw [hl] at h1
     rw [hl2] at h2
     exact fin _ _ _ h1 h2
   case unsafeString => (repeat' split at hc) <;> first | (cases hc; done) | (cases hc; simp only [jQ] at hx; cases hx; done)
   case unsafeSliceData =>
    split at hc <;> first | (cases hc; done) | skip
    rename_i y har
    have har' : args = #[y] := by rw [← Array.toList_inj]; exact har
    subst har'
    split at hc <;> cases hc
    rename_i y' hy
    have h1 := jL hy ht
    simp only [jQ, xSd] at hx
    split at hx
    ·rename_i hl
     rw [hl] at h1
     have e1 : a.eval y = .slice none 0 0 := h1
     cases hx
     exact ⟨.pointer none, by simp [execOp, ho, resolve, invoke, builtin, e1, Lib.run_unsafeSliceData_nil], rfl⟩
    ·rename_i b off n sz hl
     rw [hl] at h1
     split at hx <;> cases hx
     rename_i hn
     have hn' : n ≠ 0 := by simpa using hn
     rcases h1 with ⟨_, e0, _⟩ | ⟨g, cap, hg, e1, hle, _⟩
     ·exact absurd e0 hn'
     ·exact ⟨.pointer (some ⟨g.c, off, none⟩), by simp [execOp, ho, resolve, invoke, builtin, e1, Lib.run_unsafeSliceData_row _ _ _ _ _ _ (show cap ≠ 0 by omega)], g, hg, rfl⟩
    ·cases hx
   case len =>
    split at hc
    ·rename_i t y hat har
     have hat' : argTypes = #[t] := by rw [← Array.toList_inj]; exact hat
     have har' : args = #[y] := by rw [← Array.toList_inj]; exact har
     subst hat'; subst har'
     have fin : ∀ (n : Nat), (Builtin.len_ #[t] o.type #[a.eval y]).run P w = .ok (.int .i64 n) w → ∃ v, (execOp a.eval o).run P w = .ok (.value v) w ∧ RV μ j (.i .i64 n) v := by
      intro n h
      exact ⟨.int .i64 n, by simp [execOp, ho, resolve, invoke, builtin, h], rfl⟩
     split at hc <;> cases hc
     ·rename_i y' hu hy
      have h1 := jL hy ht
      simp only [jQ, xLn, jY] at hx
      split at hx <;> cases hx
      rotate_left
      ·rename_i l hl
       rw [hl] at h1
       obtain ⟨s, e1, e2⟩ := h1
       have hlen := RL.len _ _ e2
       simp only [List.length_map, Array.length_toList] at hlen
       have hsz : gV l 0 = s.size := by rw [vR, Nat.add_zero, ← hlen]; rfl
       refine fin _ ?_
       simp [Builtin.len_, run_underlying hu, e1, goInt, hsz]
      rename_i n v hl
      rw [hl] at h1
      obtain ⟨s, e1, e2, _⟩ := h1
      refine fin _ ?_
      simp [Builtin.len_, run_underlying hu, e1, goInt, e2]
     ·rename_i y' hu hy
      have h1 := jL hy ht
      simp only [jQ, xLm] at hx
      split at hx <;> cases hx
      ·rename_i hl
       rw [hl] at h1
       have e1 : a.eval y = .slice none 0 0 := h1
       refine fin 0 ?_
       simp [Builtin.len_, run_underlying hu, e1, goInt]
      ·rename_i b off n sz hl
       rw [hl] at h1
       have e1 : ∃ A cap, a.eval y = .slice A n cap := by
        rcases h1 with ⟨_, rfl, ad, cap, e1, _⟩ | ⟨g, cap, _, e1, _⟩ <;> exact ⟨_, _, e1⟩
       obtain ⟨A, cap, e1⟩ := e1
       refine fin n ?_
       simp [Builtin.len_, run_underlying hu, e1, goInt]
      ·rename_i k q lo hi hl
       rw [hl] at h1
       obtain ⟨e0, A, n, c, e1, e2, g1, g2⟩ := h1
       exact ⟨.int .i64 n, by simp [execOp, ho, resolve, invoke, builtin, Builtin.len_, run_underlying hu, e1, goInt], n, e2, rfl, by omega, by omega⟩
      ·rename_i l hl
       rw [hl] at h1
       obtain ⟨A, c, e1, _⟩ := h1
       refine fin (gV l 0) ?_
       rw [vR, Nat.add_zero]
       simp [Builtin.len_, run_underlying hu, e1, goInt]
    ·cases hc
   case max =>
    split at hc <;> first | (cases hc; done) | skip
    rename_i y z har
    have har' : args = #[y, z] := by rw [← Array.toList_inj]; exact har
    subst har'
    split at hc <;> cases hc
    rename_i y' z' hy hz
    have h1 := jL hy ht
    have h2 := jL hz ht
    simp only [jQ, xMx, vU] at hx
    split at hx <;> first | (cases hx; done) | skip
    rename_i k p k' q hp hq
    rw [hp] at h1
    rw [hq] at h2
    split at hx <;> cases hx
    rename_i hk
    obtain rfl := kN hk
    refine ⟨.int k (if q > p then q else p), ?_, ?_⟩
    ·simp [execOp, ho, resolve, invoke, builtin, Builtin.max_, Builtin.max2, show a.eval y = .int k p from h1, show a.eval z = .int k q from h2]
    ·show _ = _
     by_cases e : p < q <;> simp [e]
   case min =>
    split at hc <;> first | (cases hc; done) | skip
    rename_i y z har
    have har' : args = #[y, z] := by rw [← Array.toList_inj]; exact har
    subst har'
    split at hc <;> cases hc
    rename_i y' z' hy hz
    have h1 := jL hy ht
    have h2 := jL hz ht
    simp only [jQ, xMn, vU] at hx
    split at hx <;> first | (cases hx; done) | skip
    rename_i k p k' q hp hq
    rw [hp] at h1
    rw [hq] at h2
    split at hx <;> cases hx
    rename_i hk
    obtain rfl := kN hk
    refine ⟨.int k (if q < p then q else p), ?_, ?_⟩
    ·simp [execOp, ho, resolve, invoke, builtin, Builtin.min_, Builtin.min2, show a.eval y = .int k p from h1, show a.eval z = .int k q from h2]
    ·show _ = _
     by_cases e : q < p <;> simp [e]
 case next y isS =>
  cases isS <;> simp only [qQ, ho] at hc
  ·cases hc
  ·split at hc <;> cases hc
   cases hx
 case range t y =>
  simp only [qQ, ho] at hc
  split at hc <;> cases hc
  cases hx
 case panic y =>
  simp only [qQ, ho] at hc
  split at hc <;> cases hc
  cases hx
 case makeMap t r =>
  simp only [qQ, ho] at hc
  (repeat' split at hc) <;> first | (cases hc; done) | (cases hc; simp only [jQ] at hx; cases hx; done)
 case lookup t y z ok =>
  simp only [qQ, ho] at hc
  split at hc <;> first | (cases hc; done) | skip
  rename_i kt e hu
  split at hc <;> first | (cases hc; done) | skip
  rename_i z0 y' z' hk hz hy hzz
  cases hc
  exact qCu hr ht ho hu hk hz hy hzz hx
 case mapUpdate t y z v =>
  simp only [qQ, ho] at hc
  (repeat' split at hc) <;> first | (cases hc; done) | (cases hc; simp only [jQ] at hx; cases hx; done)
 case makeSlice t y z =>
  simp only [qQ, ho] at hc
  (repeat' split at hc) <;> first | (cases hc; done) | (cases hc; simp only [jQ] at hx; cases hx; done)
 all_goals (simp only [qQ, ho] at hc; cases hc)
end
end
end Go.Proofs.YthfmepmchaofjaaGreat.Ev
