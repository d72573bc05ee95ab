/- A sequence made of another one: the consumer's state seen from within, beside blocks of the maker's own. Function values. No condition. -/
import Derived.Test.YtobioeehfigmcaaRng
set_option linter.unusedSimpArgs false
set_option linter.unusedVariables false
namespace Go.Proofs.Ytobioeehfigmcaa
open Go Go.RowKit

/-- A function value that answers g and turns nothing old. -/
def FunV (P : Program) (fv : Value) (D : Nat → Prop) (dom : Array Value → Prop) (g : Array Value → Value) (w : World) : Prop :=
  (∀ b, D b → b < w.heap.size) ∧ ∀ (W : World) (args : Array Value), w.heap.size ≤ W.heap.size → (∀ b, D b → W.heap[b]? = w.heap[b]?) → dom args →
    CallV P fv args W fun e B => e = .returned (g args) ∧ Mod Nil0 W B
theorem FunV.later {P : Program} {fv : Value} {D : Nat → Prop} {dom : Array Value → Prop} {g : Array Value → Value} {w w' : World} (h : FunV P fv D dom g w)
    (hs : w.heap.size ≤ w'.heap.size) (hd : ∀ b, D b → w'.heap[b]? = w.heap[b]?) : FunV P fv D dom g w' :=
  ⟨fun b hb => Nat.lt_of_lt_of_le (h.1 b hb) hs, fun W args hW hD ha => h.2 W args (Nat.le_trans hs hW) (fun b hb => (hD b hb).trans (hd b hb)) ha⟩

/-- The consumer's state, seen from the inner loop: pv are the maker's own blocks, of which Pr speaks; cnt: how many went out. -/
def JIn (J : Nat → (Nat → Prop) → World → Prop) (pv : Nat → Prop) (Pr : Nat → World → Prop) (cnt : Nat → Nat) (m0 Wr : Nat → Prop) (W : World) (j : Nat) (M : Nat → Prop) (A : World) : Prop :=
  ∃ m, M = (fun b => m b ∨ pv b) ∧ J (cnt j) m A ∧ Pr j A ∧ (∀ b, m b → m0 b ∨ W.heap.size ≤ b) ∧ (∀ b, pv b → b < A.heap.size ∧ ¬ m b) ∧ Mod (fun b => m0 b ∨ Wr b) W A
def PrStab (pv : Nat → Prop) (Pr : Nat → World → Prop) : Prop := ∀ j A B S, Pr j A → Mod S A B → (∀ b, S b → ¬ pv b) → Pr j B

theorem JIn.stab {J : Nat → (Nat → Prop) → World → Prop} {pv m0 Wr : Nat → Prop} {Pr : Nat → World → Prop} {cnt : Nat → Nat} {W : World} (hJ : Stab W.heap.size Wr J) (hP : PrStab pv Pr)
    (n0 : Nat) (hn : W.heap.size ≤ n0) : Stab n0 Wr (JIn J pv Pr cnt m0 Wr W) := by
  rintro j M A B S ⟨m, rfl, hj, hp, hm, hv, hmod⟩ hm2 hS hS2
  exact ⟨m, rfl, hJ _ _ _ _ _ hj hm2 (fun b hb h => hS b hb (.inl h)) (fun b hb hlt => hS2 b hb (by omega)), hP _ _ _ _ hp hm2 (fun b hb h => hS b hb (.inr h)), hm,
    fun b hb => ⟨Nat.lt_of_lt_of_le (hv b hb).1 hm2.size, (hv b hb).2⟩, hmod.trans' hm2 (fun b hb h => .inr (hS2 b h (by omega)))⟩
theorem JIn.rng {J : Nat → (Nat → Prop) → World → Prop} {pv m0 Wr D D' : Nat → Prop} {Pr : Nat → World → Prop} {cnt : Nat → Nat} {W : World} (hR : Rng D Wr J) (hD : ∀ b, D' b → D b)
    (hpv : ∀ b, pv b → W.heap.size ≤ b) (hlt : ∀ b, D b ∨ Wr b → b < W.heap.size) : Rng D' Wr (JIn J pv Pr cnt m0 Wr W) := by
  rintro j M A ⟨m, rfl, hj, hp, hm, hv, hmod⟩ b (hb | hb)
  · obtain ⟨h1, h2, h3⟩ := hR _ _ _ hj b hb
    exact ⟨h1, fun h => h2 (hD b h), h3⟩
  · have := hpv b hb
    exact ⟨(hv b hb).1, fun h => by have := hlt b (.inl (hD b h)); omega, fun h => by have := hlt b (.inr h); omega⟩
/-- Behind a call of the consumer's yield. -/
theorem JIn.next {J' : Nat → (Nat → Prop) → World → Prop} {pv m0 Wr : Nat → Prop} {Pr' : Nat → World → Prop} {cnt' : Nat → Nat} {W A B : World} {j' : Nat} {m m2 : Nat → Prop}
    (hm : ∀ b, m b → m0 b ∨ W.heap.size ≤ b) (hv : ∀ b, pv b → b < A.heap.size ∧ ¬ m b) (hmod : Mod (fun b => m0 b ∨ Wr b) W A)
    (hAB : Mod (fun b => m b ∨ pv b) A B) (hpv : ∀ b, pv b → W.heap.size ≤ b) (hm2 : ∀ b, m2 b → m b ∨ A.heap.size ≤ b) (hj : J' (cnt' j') m2 B) (hp : Pr' j' B) : JIn J' pv Pr' cnt' m0 Wr W j' (fun b => m2 b ∨ pv b) B :=
  ⟨m2, rfl, hj, hp, sub_step hm hm2 hmod.size, fun b hb => ⟨Nat.lt_of_lt_of_le (hv b hb).1 hAB.size, fun h => by
      rcases hm2 b h with h | h
      · exact (hv b hb).2 h
      · have := (hv b hb).1; omega⟩,
    hmod.trans' hAB (fun b hb h => by
      rcases h with h | h
      · rcases hm b h with h | h
        · exact .inl h
        · omega
      · have := hpv b h; omega)⟩
end Go.Proofs.Ytobioeehfigmcaa
