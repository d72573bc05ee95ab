/- append(s, xs...): a row of one-cell values that is read, put behind a row of the call's own; as one operation. No condition but the bound. -/
import Derived.Test.YtobioeehfigmcaaApp
import Derived.Deep.AppendSrc
set_option linter.unusedSimpArgs false
set_option linter.unusedVariables false
namespace Go.Proofs.Ytobioeehfigmcaa
open Go Go.RowKit

theorem run_appL {P : Program} {w : World} {α : Type} {enc : α → Value} {D : Nat → Prop} (base : Nat) (t ty e : TypeId) (z : Value) (bytes : Nat) (ht : P.underlying t = some (.slice e)) (hinfo : (P.info? e).map (fun i => (i.zero, i.size, i.bytes)) = some (some z, 1, bytes)) (hz : z.cells.size = 1) (hb0 : 0 < bytes)
    (v : Value) (k : Nat) (xs : List Value) (hown : w.ownsRow base e 1 v k xs) (A : Option Addr) (c : Nat) (ys : List α) (hr : Row1 enc D w A ys) (h1 : ∀ y ∈ ys, (enc y).oneCell' = true) (hbase : base ≤ w.heap.size) (hl : (k + ys.length) * bytes ≤ 140737488355328) :
    ∃ v1 w1, (Builtin.append_ #[t, t] ty #[v, .slice A ys.length c]).run P w = .ok v1 w1 ∧ w1.ownsRow base e 1 v1 (k + ys.length) (xs ++ ys.map enc) ∧ Mod (fun b => v.ownBlock = some b) w w1 ∧ (∀ b, v1.ownBlock = some b → v.ownBlock = some b ∨ w.heap.size ≤ b) ∧ ∃ A' c', v1 = .slice A' (k + ys.length) c' := by
  obtain ⟨i0, hi, hzz⟩ := Option.map_eq_some_iff.1 hinfo
  simp only [Prod.mk.injEq] at hzz
  obtain ⟨hz0, hz1, hz2⟩ := hzz
  have hk : k + ys.length ≤ 140737488355328 := Nat.le_trans (Nat.le_mul_of_pos_right _ hb0) hl
  cases A with
  | none =>
    have h0 : ys = [] := by
      cases ys with
      | nil => rfl
      | cons x xs => obtain ⟨_, _, h, _⟩ := hr.2 (by simp); cases h
    subst h0
    refine ⟨v, w, ?_, by simpa using hown, Mod.refl _ _, fun b h => .inl h, by simpa using own_shape hown⟩
    obtain ⟨hxl, ⟨rfl, rfl⟩ | ⟨g, cap, cur, rfl, hg, hh, h2, h3, h4, h5⟩⟩ := hown
    · have hst := run_storeCells_cells (P := P) 0 0 [] 0 w (by simp) (by simp) (by simp)
      simp [Builtin.append_, run_underlying ht, sizeOf, typeInfo, hi, Builtin.lenOf, Builtin.firstCells]
    · have := run_append_room_src w t t ty e i0 ht hi g 0 k cap (.slice none 0 c) 0 [] (Src.ofNil w ht c) (by omega) (by simp) (by simp)
      simp only [Nat.add_zero] at this
      rw [show ([] : List α).length = 0 from rfl, this]
      congr 1
  | some ad =>
    have hnews : ∀ j u, (ys.map enc)[j]? = some u → w.cell? (ad.add j) = some u := by
      intro j u hu
      rw [List.getElem?_map] at hu
      obtain ⟨x, hx, rfl⟩ := Option.map_eq_some_iff.1 hu
      obtain ⟨b, o, e', _, hc⟩ := hr.2 (by have := (List.getElem?_eq_some_iff.1 hx).1; omega)
      cases e'
      rw [Addr.add_lit]
      exact hc j x hx
    obtain ⟨v1, w1, h2, h3, h4, -, h5⟩ := run_append_own_at (P := P) w base t ty e i0 z 1 bytes ht hi hz0 hz1 hz2 hz (by omega) v k xs hown ad ys.length c (ys.map enc) (by simp) hnews (by intro u hu; obtain ⟨x, hx, rfl⟩ := List.mem_map.1 hu; exact h1 x hx) (by unfold maxLen; omega) hl hbase
    refine ⟨v1, w1, h2, h3, (Mod.refl _ _).grown h4 (fun k hk _ => hk), fun b hb => ?_, own_shape h3⟩
    rcases h5 with h5 | h5
    · exact .inl (h5 ▸ hb)
    · right; rw [h5] at hb; cases hb; exact Nat.le_refl _

theorem appL_op {P : Program} {ro : Option Nat} {n : Nat} {K : Act → World → Prop} {Q : Exit → Act → World → Prop} {o : Oper} {a : Act} {w : World} {α : Type} {enc : α → Value} {D : Nat → Prop} (base : Nat) (s x : Operand) (t e : TypeId) (z : Value) (bytes : Nat)
    (ho : o.op = .call { callee := .builtin .append, args := #[s, x], argTypes := #[t, t] }) (ht : P.underlying t = some (.slice e)) (hinfo : (P.info? e).map (fun i => (i.zero, i.size, i.bytes)) = some (some z, 1, bytes)) (hz : z.cells.size = 1) (hb0 : 0 < bytes)
    (v : Value) (k : Nat) (xs : List Value) (hs : a.eval s = v) (hown : w.ownsRow base e 1 v k xs) (A : Option Addr) (c : Nat) (ys : List α) (hx : a.eval x = .slice A ys.length c) (hr : Row1 enc D w A ys) (h1 : ∀ y ∈ ys, (enc y).oneCell' = true) (hbase : base ≤ w.heap.size) (hl : (k + ys.length) * bytes ≤ 140737488355328)
    (h : ∀ v1 w1, w1.ownsRow base e 1 v1 (k + ys.length) (xs ++ ys.map enc) → Mod (fun b => v.ownBlock = some b) w w1 → (∀ b, v1.ownBlock = some b → v.ownBlock = some b ∨ w.heap.size ≤ b) → (∃ A' c', v1 = .slice A' (k + ys.length) c') → K (a.put o.dst v1) w1) :
    o.wpIn (FW ro) n P a w K Q := by
  obtain ⟨v1, w1, h2, h3, h4, h5, h6⟩ := run_appL (P := P) base t o.type e z bytes ht hinfo hz hb0 v k xs hown A c ys hr h1 hbase hl
  unfold Oper.wpIn
  refine ⟨fun _ _ => trivial, ?_⟩
  rw [Oper.semAt_eq _ _ _ (by rw [ho]; intro c hc'; cases hc')]
  simp [execOp, ho, resolve, invoke, builtin, hs, hx, h2, Result.andThen]
  exact h v1 w1 h3 h4 h5 h6
end Go.Proofs.Ytobioeehfigmcaa
