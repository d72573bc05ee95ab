/- A row of the call's own, sorted by the library. No condition. -/
import Derived.Test.YtobioeehfigmcaaEx6
set_option linter.unusedSimpArgs false
set_option linter.unusedVariables false
namespace Go.Proofs.Ytobioeehfigmcaa
open Go Go.RowKit Go.Shelf Go.Lib Go.Sort

theorem flatK_eq (xs : List (Int × Int)) (q : Nat) (hq : q < xs.length * 2) : (flatK encE 2 xs.toArray)[q]! = ((xs.flatMap encE)[q]?).getD default := by
  rw [get_flatK _ _ _ _ (by simpa using hq)]
  have hj : q / 2 < xs.length := by omega
  have h1 : xs[q / 2]? = some xs[q / 2] := by simp [hj]
  have h2 : (encE xs[q / 2])[q % 2]? = some ((encE xs[q / 2])[q % 2]'(by rw [encE_len]; omega)) := by simp
  have h3 := flat_get encE_len xs _ _ h1 _ _ h2
  rw [show q / 2 * 2 + q % 2 = q by omega] at h3
  rw [h3]
  have hx : xs.toArray[q / 2]! = xs[q / 2] := by simp [hj]
  rw [hx, getElem!_pos _ _ (by rw [encE_len]; omega)]
  rfl
theorem holdsK_own {w : World} {base : Nat} {e : TypeId} {g cap : Nat} {xs : List (Int × Int)} (h : w.ownsRow base e 2 (.slice (some ⟨g, 0, none⟩) xs.length cap) xs.length (xs.flatMap encE)) : HoldsK encE 2 w g 0 xs.toArray := by
  intro q hq
  have hq' : q < xs.length * 2 := by simpa using hq
  have hc := h.cells (g := g) rfl q ((xs.flatMap encE)[q]'(by rw [flat_len encE_len]; exact hq')) (by simp)
  rw [Addr.add_lit] at hc
  refine ⟨?_, ?_⟩
  · rw [hc, flatK_eq xs q hq', List.getElem?_eq_getElem (by rw [flat_len encE_len]; exact hq')]
    rfl
  · rcases h.2 with ⟨h1, _⟩ | ⟨g', cap', cur, h1, _, hg, _⟩
    · cases h1
    · cases h1
      simp [World.frozen?, hg]
theorem sortWorld_mod (w : World) (g n : Nat) (d : Array (Int × Int)) (os : Array Obj) : Mod (· = g) w (sortWorldK encE 2 w g 0 n d os) := by
  refine ⟨rfl, rfl, rfl, ?_, fun b hb hne => ?_⟩
  · simp [sortWorldK, grow, putRowK, putRow, mapBlock, ahead]
  · have hne : ¬ b = g := hne
    have hb2 : b < (w.heap.modify g (onCells (putCells id 0 (flatK encE 2 d)))).size := by simpa using hb
    show ((w.heap.modify g (onCells (putCells id 0 (flatK encE 2 d)))) ++ os)[b]? = _
    rw [Array.getElem?_append_left hb2, Array.getElem?_modify, if_neg (fun e => hne e.symm)]
theorem own_sorted {w : World} {base : Nat} {e : TypeId} {g cap : Nat} {xs : List (Int × Int)} {n : Nat} {d : Array (Int × Int)} {os : Array Obj} (h : w.ownsRow base e 2 (.slice (some ⟨g, 0, none⟩) xs.length cap) xs.length (xs.flatMap encE)) (hd : d.size = xs.length) :
    (sortWorldK encE 2 w g 0 n d os).ownsRow base e 2 (.slice (some ⟨g, 0, none⟩) xs.length cap) xs.length (d.toList.flatMap encE) := by
  obtain ⟨hl, ⟨h1, _⟩ | ⟨g', cap', cur, h1, hb, hg, h2, h3, h4, h5⟩⟩ := h
  · cases h1
  cases h1
  obtain ⟨hlt, hk⟩ := Array.getElem?_eq_some_iff.1 hg
  refine ⟨by rw [flat_len encE_len]; simp [hd], .inr ⟨g, cap, putCells id 0 (flatK encE 2 d) cur, rfl, hb, ?_, h2, h3, by simp [putCells, h4], ?_⟩⟩
  · have hb2 : g < (w.heap.modify g (onCells (putCells id 0 (flatK encE 2 d)))).size := by simpa using hlt
    show ((w.heap.modify g (onCells (putCells id 0 (flatK encE 2 d)))) ++ os)[g]? = _
    rw [Array.getElem?_append_left hb2, Array.getElem?_eq_getElem hb2, Array.getElem_modify_self, hk]
    rfl
  · obtain ⟨ys⟩ := d
    have hys : ys.length = xs.length := by simpa using hd
    apply List.ext_getElem
    · rw [List.length_take, flat_len encE_len]; simp [putCells]; omega
    · intro q hq1 hq2
      have hq : q < ys.length * 2 := by rw [flat_len encE_len] at hq2; exact hq2
      have hf := flatK_eq ys q hq
      rw [List.getElem?_eq_getElem hq2] at hf
      simp only [List.getElem_take, Array.getElem_toList, putCells, Array.getElem_mapIdx, size_flatK]
      rw [if_pos (by constructor <;> simp <;> omega)]
      simp only [Nat.sub_zero, id]
      exact hf
end Go.Proofs.Ytobioeehfigmcaa
