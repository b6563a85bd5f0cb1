/-
All contracts of the table hold of the program.
-/
import Derived.Test.YthfmepmchaofjaaGreatRk0
import Derived.Test.YthfmepmchaofjaaGreatRk1
import Derived.Test.YthfmepmchaofjaaGreatRk2
import Derived.Test.YthfmepmchaofjaaGreatRk3
import Derived.Test.YthfmepmchaofjaaGreatRk4
import Derived.Test.YthfmepmchaofjaaGreatRk5
import Derived.Test.YthfmepmchaofjaaGreatRk6
import Derived.Test.YthfmepmchaofjaaGreatRk7
import Derived.Test.YthfmepmchaofjaaGreatRk8
import Derived.Test.YthfmepmchaofjaaGreatRk9
import Derived.Test.YthfmepmchaofjaaGreatRk10
import Derived.Test.YthfmepmchaofjaaGreatLfJ
set_option linter.all false
namespace Go.Proofs.YthfmepmchaofjaaGreat.Ev.Lf
noncomputable section
open Go Ev Rf
set_option maxRecDepth 100000
theorem kU {α : Type} {f : Nat} {x : α} : ∀ {l : List (Nat × α)}, x ∈ wU l f → (f, x) ∈ l
 | [], h => by cases h
 | p :: r, h => by
  unfold wU at h
  cases e : Nat.beq p.1 f with
  | true =>
   rw [e] at h
   have e' := Nat.eq_of_beq_eq_true e
   rcases List.mem_cons.1 h with h | h
   ·subst h; subst e'; exact List.mem_cons_self
   ·exact List.mem_cons_of_mem _ (kU h)
  | false => rw [e] at h; exact List.mem_cons_of_mem _ (kU h)
theorem psc : PSc PT := fun f ct h => by
 have : csT.all (fun p => jJh p.2) = true := by decide +kernel
 exact List.all_eq_true.1 this (f, ct) (kU h)
theorem qDt : csT.all (fun p => isS (lS Tryz.prog p.1) && !Nat.beq p.1 4) = true := by decide +kernel
def TR : List (Nat × CtX) → Prop
 | [] => True
 | p :: r => (∃ (an : Nat → Option Ann) (hs : Nat → Option (List LT)) (kd : Nat → Nat), okF PT LL p.1 (gP p.1) p.2 an hs kd) ∧ TR r
theorem jTv {f : Nat} {ct : CtX} : ∀ {l : List (Nat × CtX)}, TR l → (f, ct) ∈ l → ∃ (an : Nat → Option Ann) (hs : Nat → Option (List LT)) (kd : Nat → Nat), okF PT LL f (gP f) ct an hs kd
 | [], _, h => by cases h
 | p :: r, ht, h => by
  rcases List.mem_cons.1 h with h | h
  ·subst h; exact ht.1
  ·exact jTv ht.2 h
set_option maxHeartbeats 4000000
theorem tZ9 : TR csT := ⟨⟨a0, h0, k0, .inl (jA k42_ok)⟩, ⟨⟨a0, h0, k0, .inl (jA k41_ok)⟩, ⟨⟨a0, h0, k0, .inl (jA k40_ok)⟩, ⟨⟨a18, h0, k0, .inl (jA k18_ok)⟩, ⟨⟨a18_1, h0, k0, .inl (jA k18_1_ok)⟩, ⟨⟨a17, h0, k0, .inl (jA k17_ok)⟩, ⟨⟨a17_1, h0, k0, .inl (jA k17_1_ok)⟩, ⟨⟨a17_2, h0, k0, .inl (jA k17_2_ok)⟩, ⟨⟨a0, h0, k0, .inl (jA k15_ok)⟩, ⟨⟨a0, h0, k0, .inl (jA k15_1_ok)⟩, ⟨⟨a0, h0, k0, .inl (jA k16_ok)⟩, ⟨⟨a62, h0, k0, .inl (jA k62_ok)⟩, ⟨⟨a64, h0, k0, .inl (jA k64_ok)⟩, ⟨⟨a0, h0, k0, .inl (jA k80_ok)⟩, ⟨⟨a0, h0, k0, .inl (jA k67_ok)⟩, ⟨⟨a0, h0, k0, .inl (jA k69_ok)⟩, ⟨⟨a0, h0, k0, .inl (jA k111_ok)⟩, ⟨⟨a0, h0, k0, .inl (jA k79_ok)⟩, ⟨⟨a92, h0, k0, .inl (jA k92_ok)⟩, ⟨⟨a0, h0, k0, .inl (jA k102_ok)⟩, ⟨⟨a66, h0, k0, .inl (jA k66_ok)⟩, ⟨⟨a103, h0, k0, .inl (jA k103_ok)⟩, ⟨⟨a93, h0, k0, .inl (jA k93_ok)⟩, ⟨⟨a65, h0, k0, .inl (jA k65_ok)⟩, ⟨⟨a68, h0, k0, .inl (jA k68_ok)⟩, ⟨⟨a0, h0, k0, .inl (jA k44_ok)⟩, ⟨⟨a0, h0, k0, .inl (jA k45_ok)⟩, ⟨⟨a46, h0, k0, .inl (jA k46_ok)⟩, ⟨⟨a0, h0, k0, .inl (jA k117_ok)⟩, ⟨⟨a0, h0, k0, .inl (jA k118_ok)⟩, ⟨⟨a0, h0, k0, .inl (jA k108_ok)⟩, ⟨⟨a107, h0, k0, .inl (jA k107_ok)⟩, ⟨⟨a19, h0, k0, .inl (jA k19_ok)⟩, ⟨⟨a115, h0, k0, .inl (jA k115_ok)⟩, ⟨⟨a116, h0, k0, .inl (jA k116_ok)⟩, ⟨⟨a43, h0, k0, .inl (jA k43_ok)⟩, ⟨⟨a114, h0, k0, .inl (jA k114_ok)⟩, ⟨⟨a21, h0, k0, .inl (jA k21_ok)⟩, ⟨⟨a20, h0, k0, .inl (jA k20_ok)⟩, ⟨⟨a81, h0, k0, .inl (jA k81_ok)⟩, ⟨⟨a81_1, h0, k0, .inl (jA k81_1_ok)⟩, ⟨⟨a81_2, h0, k0, .inl (jA k81_2_ok)⟩, ⟨⟨a81_3, h0, k0, .inl (jA k81_3_ok)⟩, ⟨⟨a61, h0, k0, .inl (jA k61_ok)⟩, ⟨⟨a0, h0, k0, .inl (jA k63_ok)⟩, ⟨⟨a0, h0, k0, .inl (jA k113_ok)⟩, ⟨⟨a0, h0, k0, .inl (jA k95_ok)⟩, ⟨⟨a0, h0, k0, .inl (jA k109_ok)⟩, ⟨⟨a0, h0, k0, .inl (jA k98_ok)⟩, ⟨⟨a99, h0, k0, .inl (jA k99_ok)⟩, ⟨⟨a105, h0, k105, .inl (jA k105_ok)⟩, ⟨⟨a106, h0, k0, .inl (jA k106_ok)⟩, ⟨⟨a96, h0, k0, .inl (jA k96_ok)⟩, ⟨⟨a87, h0, k0, .inl (jA k87_ok)⟩, ⟨⟨a112, h112, k112, .inl (jA k112_ok)⟩, ⟨⟨a39, h0, k39, .inl (jA k39_ok)⟩, ⟨⟨a0, h0, k0, .inl (jA k14_ok)⟩, ⟨⟨a0, h0, k0, .inl (jA k128_ok)⟩, ⟨⟨a104, h0, k104, .inl (jA k104_ok)⟩, ⟨⟨a0, h0, k0, .inl (jA k120_ok)⟩, ⟨⟨a0, h0, k0, .inl (jA k84_ok)⟩, ⟨⟨a135, h0, k0, .inl (jA k135_ok)⟩, ⟨⟨a0, h0, k0, .inl (jA k126_ok)⟩, ⟨⟨a0, h0, k0, .inl (jA k125_ok)⟩, ⟨⟨a0, h0, k0, .inl (jA k119_ok)⟩, ⟨⟨a0, h0, k0, .inl (jA k121_ok)⟩, ⟨⟨a0, h0, k0, .inl (jA k133_ok)⟩, ⟨⟨a0, h0, k0, .inl (jA k129_ok)⟩, ⟨⟨a0, h0, k0, .inl (jA k122_ok)⟩, ⟨⟨a0, h0, k0, .inl (jA k137_ok)⟩, ⟨⟨a0, h0, k0, .inl (jA k138_ok)⟩, ⟨⟨a0, h0, k0, .inl (jA k134_ok)⟩, ⟨⟨a0, h0, k0, .inl (jA k136_ok)⟩, ⟨⟨a0, h0, k0, .inl (jA k130_ok)⟩, ⟨⟨a0, h0, k0, .inl (jA k131_ok)⟩, ⟨⟨a0, h0, k0, .inl (jA k132_ok)⟩, ⟨⟨a0, h0, k0, .inl (jA k124_ok)⟩, ⟨⟨a0, h0, k0, .inl (jA k123_ok)⟩, ⟨⟨a0, h0, k0, .inl (jA k127_ok)⟩, ⟨⟨a0, h0, k0, .inl (jA k127_1_ok)⟩, ⟨⟨a110, h0, k110, .inl (jA k110_ok)⟩, ⟨⟨a0, h0, k0, .inl (jA k97_ok)⟩, ⟨⟨a0, h0, k0, .inl (jA k54_ok)⟩, ⟨⟨a0, h0, k0, .inl (jA k35_ok)⟩, ⟨⟨a0, h0, k0, .inl (jA k49_ok)⟩, ⟨⟨a0, h0, k0, .inl (jA k83_ok)⟩, ⟨⟨a0, h0, k0, .inl (jA k48_ok)⟩, ⟨⟨a0, h0, k0, .inl (jA k89_ok)⟩, ⟨⟨a0, h0, k0, .inl (jA k70_ok)⟩, ⟨⟨a0, h0, k0, .inl (jA k82_ok)⟩, ⟨⟨a0, h0, k0, .inl (jA k71_ok)⟩, ⟨⟨a0, h0, k0, .inl (jA k71_1_ok)⟩, ⟨⟨a0, h0, k0, .inl (jA k72_ok)⟩, ⟨⟨a0, h0, k0, .inl (jA k85_ok)⟩, ⟨⟨a0, h0, k0, .inl (jA k47_ok)⟩, ⟨⟨a0, h0, k0, .inl (jA k47_1_ok)⟩, ⟨⟨a73, h0, k73, .inl (jA k73_ok)⟩, ⟨⟨a0, h0, k0, .inl (jA k94_ok)⟩, ⟨⟨a0, h0, k0, .inl (jA k88_ok)⟩, ⟨⟨a0, h0, k0, .inl (jA k86_ok)⟩, ⟨⟨a0, h0, k0, .inl (jA k86_1_ok)⟩, ⟨⟨a0, h0, k0, .inl (jA k86_2_ok)⟩, ⟨⟨a90, h0, k90, .inl (jA k90_ok)⟩, ⟨⟨a91, h0, k91, .inl (jA k91_ok)⟩, ⟨⟨a91_1, h0, k91_1, .inl (jA k91_1_ok)⟩, ⟨⟨a0, h0, k0, .inl (jA k101_ok)⟩, ⟨⟨a0, h0, k0, .inl (jA k100_ok)⟩, ⟨⟨a0, h0, k0, .inl (jA k22_ok)⟩, ⟨⟨a0, h0, k0, .inl (jA k22_1_ok)⟩, ⟨⟨a5, h0, k5, .inl (jA k5_ok)⟩, ⟨⟨a0, h0, k37, .inl (jA k37_ok)⟩, ⟨⟨a56, h0, k0, .inl (jA k56_ok)⟩, ⟨⟨a0, h0, k0, .inl (jA k32_ok)⟩, ⟨⟨a33, h0, k0, .inl (jA k33_ok)⟩, ⟨⟨a33_1, h0, k0, .inl (jA k33_1_ok)⟩, ⟨⟨a33_2, h0, k0, .inl (jA k33_2_ok)⟩, ⟨⟨a33_3, h0, k0, .inl (jA k33_3_ok)⟩, ⟨⟨a33_4, h0, k0, .inl (jA k33_4_ok)⟩, ⟨⟨a33_5, h0, k0, .inl (jA k33_5_ok)⟩, ⟨⟨a0, h0, k0, .inl (jA k55_ok)⟩, ⟨⟨a0, h0, k0, .inl (jA k34_ok)⟩, ⟨⟨a0, h0, k57, .inl (jA k57_ok)⟩, ⟨⟨a0, h0, k0, .inl (jA k77_ok)⟩, ⟨⟨a0, h0, k78, .inl (jA k78_ok)⟩, ⟨⟨a0, h0, k60, .inl (jA k60_ok)⟩, ⟨⟨a0, h0, k0, .inl (jA k76_ok)⟩, ⟨⟨a58, h0, k58, .inl (jA k58_ok)⟩, ⟨⟨a59, h59, k0, .inl (jA k59_ok)⟩, ⟨⟨a0, h0, k0, .inl (jA k36_ok)⟩, ⟨⟨a38, h0, k0, .inl (jA k38_ok)⟩, ⟨⟨a13, h0, k0, .inl (jA k13_ok)⟩, ⟨⟨a6, h0, k0, .inl (jA k6_ok)⟩, trivial⟩⟩⟩⟩⟩⟩⟩⟩⟩⟩⟩⟩⟩⟩⟩⟩⟩⟩⟩⟩⟩⟩⟩⟩⟩⟩⟩⟩⟩⟩⟩⟩⟩⟩⟩⟩⟩⟩⟩⟩⟩⟩⟩⟩⟩⟩⟩⟩⟩⟩⟩⟩⟩⟩⟩⟩⟩⟩⟩⟩⟩⟩⟩⟩⟩⟩⟩⟩⟩⟩⟩⟩⟩⟩⟩⟩⟩⟩⟩⟩⟩⟩⟩⟩⟩⟩⟩⟩⟩⟩⟩⟩⟩⟩⟩⟩⟩⟩⟩⟩⟩⟩⟩⟩⟩⟩⟩⟩⟩⟩⟩⟩⟩⟩⟩⟩⟩⟩⟩⟩⟩⟩⟩⟩⟩⟩⟩⟩⟩⟩⟩⟩
theorem qDu : qBu (lS Tryz.prog) := fun f ct h => by
 have hm := kU (l := csT) h
 have h1 := List.all_eq_true.1 qDt (f, ct) hm
 simp only [Bool.and_eq_true, Bool.not_eq_true'] at h1
 refine ⟨fun e => ?_, gP f, qCc h1.1, jTv (l := csT) tZ9 hm⟩
 subst e
 exact absurd h1.2 (by decide)
end
end Go.Proofs.YthfmepmchaofjaaGreat.Ev.Lf
