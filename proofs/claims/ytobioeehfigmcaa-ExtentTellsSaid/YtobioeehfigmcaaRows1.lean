/- Rows of values that are read; counting what a filter lets through; predicates as function values. No condition. -/
import Derived.Test.YtobioeehfigmcaaDer
import Derived.Lib.SliceRun
set_option linter.unusedSimpArgs false
set_option linter.unusedVariables false
namespace Go.Proofs.Ytobioeehfigmcaa
open Go Go.RowKit

/-- A row of one-cell values that is read, in a block of D. -/
def Row1 {α : Type} (enc : α → Value) (D : Nat → Prop) (w : World) (A : Option Addr) (xs : List α) : Prop :=
  xs.length ≤ 140737488351232 ∧ (0 < xs.length → ∃ b o, A = some ⟨b, o, none⟩ ∧ D b ∧ ∀ j x, xs[j]? = some x → w.cell? ⟨b, o + j, none⟩ = some (enc x))
theorem Row1.keep {α : Type} {enc : α → Value} {D : Nat → Prop} {w w' : World} {A : Option Addr} {xs : List α} (h : Row1 enc D w A xs) (hd : ∀ b, D b → w'.heap[b]? = w.heap[b]?) : Row1 enc D w' A xs := by
  refine ⟨h.1, fun h0 => ?_⟩
  obtain ⟨b, o, rfl, hb, hc⟩ := h.2 h0
  exact ⟨b, o, rfl, hb, fun j x hj => (World.cell?_of_block (a := ⟨b, o + j, none⟩) (hd b hb)).trans (hc j x hj)⟩
theorem Row1.mono {α : Type} {enc : α → Value} {D D' : Nat → Prop} {w : World} {A : Option Addr} {xs : List α} (h : Row1 enc D w A xs) (hd : ∀ b, D b → D' b) : Row1 enc D' w A xs := by
  refine ⟨h.1, fun h0 => ?_⟩
  obtain ⟨b, o, rfl, hb, hc⟩ := h.2 h0
  exact ⟨b, o, rfl, hd b hb, hc⟩
theorem Row1.nil {α : Type} (enc : α → Value) (D : Nat → Prop) (w : World) (A : Option Addr) : Row1 enc D w A [] := ⟨by simp, fun h => by simp at h⟩
theorem Row1.lt {α : Type} {enc : α → Value} {D : Nat → Prop} {w : World} {A : Option Addr} {xs : List α} (h : Row1 enc D w A xs) : Row1 enc (fun b => D b ∧ b < w.heap.size) w A xs := by
  refine ⟨h.1, fun h0 => ?_⟩
  obtain ⟨b, o, rfl, hb, hc⟩ := h.2 h0
  refine ⟨b, o, rfl, ⟨hb, ?_⟩, hc⟩
  have := hc 0 xs[0] (by simp [h0])
  exact World.block_lt_of_cell? w _ this
theorem Row1.of_own {α : Type} {enc : α → Value} {w : World} {base n : Nat} {e : TypeId} {v : Value} {xs : List α} (h : w.ownsRow base e 1 v n (xs.map enc)) (hl : xs.length ≤ 140737488351232) :
    ∃ A c, v = .slice A xs.length c ∧ Row1 enc (fun b => base ≤ b ∧ b < w.heap.size ∧ v.ownBlock = some b) w A xs := by
  have hn : xs.length = n := by have := h.1; simpa using this
  subst hn
  rcases h.2 with ⟨rfl, h0⟩ | ⟨g, cap, cur, rfl, hb, hg, _⟩
  · have : xs = [] := List.eq_nil_of_length_eq_zero h0
    subst this
    exact ⟨none, 0, rfl, Row1.nil _ _ _ _⟩
  · refine ⟨_, cap, rfl, hl, fun h0 => ⟨g, 0, rfl, ⟨hb, (Array.getElem?_eq_some_iff.1 hg).1, rfl⟩, fun j x hj => ?_⟩⟩
    have := h.cells (g := g) rfl j (enc x) (by simp [hj])
    have ha : (⟨g, 0, none⟩ : Addr).add j = ⟨g, 0 + j, none⟩ := by unfold Addr.add; split <;> simp_all
    rwa [ha] at this

/-- A new slice of xs comes back. -/
def RSlice {α : Type} (enc : α → Value) (xs : List α) (Wr : Nat → Prop) (w : World) (X : World → Prop) (e : Ending) (B : World) : Prop :=
  ∃ A c, e = .returned (.slice A xs.length c) ∧ Mod Wr w B ∧ Row1 enc (fun b => w.heap.size ≤ b ∧ b < B.heap.size) B A xs ∧ X B
/-- A function value that answers p of its one argument and turns nothing old. -/
def PredV {α : Type} (P : Program) (fv : Value) (D : Nat → Prop) (enc : α → Value) (p : α → Bool) (dom : α → Prop) (w : World) : Prop :=
  (∀ b, D b → b < w.heap.size) ∧ ∀ (W : World) (x : α), w.heap.size ≤ W.heap.size → (∀ b, D b → W.heap[b]? = w.heap[b]?) → dom x →
    CallV P fv #[enc x] W fun e B => e = .returned (.bool (p x)) ∧ Mod Nil0 W B
theorem PredV.later {α : Type} {P : Program} {fv : Value} {D : Nat → Prop} {enc : α → Value} {p : α → Bool} {dom : α → Prop} {w w' : World} (h : PredV P fv D enc p dom w)
    (hs : w.heap.size ≤ w'.heap.size) (hd : ∀ b, D b → w'.heap[b]? = w.heap[b]?) : PredV P fv D enc p dom w' :=
  ⟨fun b hb => Nat.lt_of_lt_of_le (h.1 b hb) hs, fun W x hW hD ha => h.2 W x (Nat.le_trans hs hW) (fun b hb => (hD b hb).trans (hd b hb)) ha⟩

/-- How many of the first j are kept. -/
def kcnt {α : Type} (p : α → Bool) (xs : List α) (j : Nat) : Nat := ((xs.take j).filter p).length
theorem kcnt_succ_pos {α : Type} {p : α → Bool} {xs : List α} {j : Nat} (h : j < xs.length) (hp : p xs[j] = true) : kcnt p xs (j + 1) = kcnt p xs j + 1 := by
  unfold kcnt; rw [List.take_succ_eq_append_getElem h, List.filter_append, List.length_append]; simp [List.filter_cons, hp]
theorem kcnt_succ_neg {α : Type} {p : α → Bool} {xs : List α} {j : Nat} (h : j < xs.length) (hp : p xs[j] = false) : kcnt p xs (j + 1) = kcnt p xs j := by
  unfold kcnt; rw [List.take_succ_eq_append_getElem h, List.filter_append, List.length_append]; simp [List.filter_cons, hp]
theorem kcnt_get {α : Type} {p : α → Bool} {xs : List α} {j : Nat} (h : j < xs.length) (hp : p xs[j] = true) : ∃ h' : kcnt p xs j < (xs.filter p).length, (xs.filter p)[kcnt p xs j] = xs[j] := by
  have e : xs = xs.take j ++ xs[j] :: xs.drop (j + 1) := by rw [← List.drop_eq_getElem_cons h, List.take_append_drop]
  have e2 : xs.filter p = (xs.take j).filter p ++ xs[j] :: (xs.drop (j + 1)).filter p := by
    conv => lhs; rw [e]
    rw [List.filter_append, List.filter_cons, if_pos hp]
  refine ⟨by rw [e2]; simp [kcnt], ?_⟩
  simp only [e2]
  rw [List.getElem_append_right (by simp [kcnt])]
  simp [kcnt]
/-- Behind k that went out: how far the inner sequence was asked. -/
def KIt {α : Type} (p : α → Bool) (xs : List α) (It : Option Nat → World → Prop) : Option Nat → World → Prop
  | none, W => It none W
  | some k, W => ∃ i, ∃ h : i < xs.length, p xs[i] = true ∧ kcnt p xs (i + 1) = k ∧ It (some (i + 1)) W
def KX {α : Type} (p : α → Bool) (xs : List α) (c : Code) (j : Nat) : Prop := c = .ret ∧ ∃ i, ∃ h : i < xs.length, j = i + 1 ∧ p xs[i] = true
def YBox (b : Nat) (t : TypeId) (y : Value) (j : Nat) (A : World) : Prop := A.heap[b]? = some (.cells #[y] t (0, 0))
theorem YBox.stab (b : Nat) (t : TypeId) (y : Value) : PrStab (· = b) (YBox b t y) := fun j A B S h hm hS => hm.heap h (fun hs => hS _ hs rfl)
end Go.Proofs.Ytobioeehfigmcaa
