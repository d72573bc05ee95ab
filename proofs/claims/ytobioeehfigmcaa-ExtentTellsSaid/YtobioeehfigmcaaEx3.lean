/- Rows of elements of several cells, flat. No condition. -/
import Derived.Test.YtobioeehfigmcaaEx2
set_option linter.unusedSimpArgs false
set_option linter.unusedVariables false
namespace Go.Proofs.Ytobioeehfigmcaa
open Go Go.RowKit Go.Shelf

theorem flat_len {α : Type} {k : Nat} {enc : α → List Value} (hk : ∀ x, (enc x).length = k) : ∀ xs : List α, (xs.flatMap enc).length = xs.length * k
  | [] => by simp
  | x :: xs => by rw [List.flatMap_cons, List.length_append, hk, flat_len hk xs, List.length_cons, Nat.add_mul]; omega
theorem flat_get {α : Type} {k : Nat} {enc : α → List Value} (hk : ∀ x, (enc x).length = k) : ∀ (xs : List α) (j : Nat) (x : α), xs[j]? = some x → ∀ i v, (enc x)[i]? = some v → (xs.flatMap enc)[j * k + i]? = some v
  | [], j, x, h, _, _, _ => by simp at h
  | y :: xs, 0, x, h, i, v, hi => by
    simp at h; subst h
    have hil := (List.getElem?_eq_some_iff.1 hi).1
    rw [List.flatMap_cons, Nat.zero_mul, Nat.zero_add, List.getElem?_append_left hil]; exact hi
  | y :: xs, j + 1, x, h, i, v, hi => by
    have := flat_get hk xs j x (by simpa using h) i v hi
    rw [List.flatMap_cons, List.getElem?_append_right (by rw [hk, Nat.add_mul]; omega), hk, show (j + 1) * k + i - k = j * k + i by rw [Nat.add_mul]; omega]
    exact this
theorem flat_at {α : Type} {k : Nat} {enc : α → List Value} (hk : ∀ x, (enc x).length = k) : ∀ (xs : List α) (q : Nat) (v : Value), (xs.flatMap enc)[q]? = some v → ∃ j x i, xs[j]? = some x ∧ (enc x)[i]? = some v ∧ q = j * k + i
  | [], q, v, h => by simp at h
  | y :: xs, q, v, h => by
    rw [List.flatMap_cons] at h
    by_cases hq : q < (enc y).length
    · rw [List.getElem?_append_left hq] at h
      exact ⟨0, y, q, rfl, h, by simp⟩
    · rw [List.getElem?_append_right (by omega), hk] at h
      obtain ⟨j, x, i, h1, h2, h3⟩ := flat_at hk xs _ v h
      rw [hk] at hq
      exact ⟨j + 1, x, i, by simpa using h1, h2, by rw [Nat.add_mul]; omega⟩
/-- The cells of a row that is read, flat. -/
theorem RowK.flat {α : Type} {k : Nat} {enc : α → List Value} (hk : ∀ x, (enc x).length = k) {D : Nat → Prop} {w : World} {A : Option Addr} {xs : List α} (h : RowK k enc D w A xs) : ∀ ad, A = some ad → ∀ q u, (xs.flatMap enc)[q]? = some u → w.cell? (ad.add q) = some u := by
  rintro ad rfl q u hq
  obtain ⟨j, x, i, h1, h2, rfl⟩ := flat_at hk xs q u hq
  obtain ⟨b, o, e, _, hc⟩ := h.2 (by have := (List.getElem?_eq_some_iff.1 h1).1; omega)
  cases e
  rw [Addr.add_lit, ← Nat.add_assoc]
  exact hc j x h1 i u h2
theorem RowK.of_own {α : Type} {k : Nat} {enc : α → List Value} (hk : ∀ x, (enc x).length = k) (hk0 : 0 < k) {w : World} {base n : Nat} {e : TypeId} {v : Value} {xs : List α} (h : w.ownsRow base e k v n (xs.flatMap enc)) (hl : xs.length ≤ 140737488351232) :
    ∃ A c, v = .slice A xs.length c ∧ RowK k enc (fun b => base ≤ b ∧ b < w.heap.size ∧ v.ownBlock = some b) w A xs := by
  have hn : xs.length = n := by have := h.1; rw [flat_len hk] at this; exact Nat.eq_of_mul_eq_mul_right hk0 this
  subst hn
  rcases h.2 with ⟨rfl, h0⟩ | ⟨g, cap, cur, rfl, hb, hg, _⟩
  · have : xs = [] := List.eq_nil_of_length_eq_zero h0
    subst this
    exact ⟨none, 0, rfl, RowK.nil _ _ _ _ _⟩
  · refine ⟨_, cap, rfl, hl, fun h0 => ⟨g, 0, rfl, ⟨hb, (Array.getElem?_eq_some_iff.1 hg).1, rfl⟩, fun j x hj i u hi => ?_⟩⟩
    have := h.cells (g := g) rfl (j * k + i) u (flat_get hk xs j x hj i u hi)
    rw [Addr.add_lit] at this
    rwa [← Nat.add_assoc] at this
end Go.Proofs.Ytobioeehfigmcaa
