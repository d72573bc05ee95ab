/- Appending to a row of the call's own, and a variable's box that holds such a row, as a loop's state. No condition. -/
import Derived.Test.YtobioeehfigmcaaRows1
import Derived.Maps.OwnIn
import Derived.Maps.AppendAt
import Derived.Deep.AppendLies
set_option linter.unusedSimpArgs false
set_option linter.unusedVariables false
namespace Go.Proofs.Ytobioeehfigmcaa
open Go Go.RowKit

theorem own_move {w w1 : World} {base : Nat} {e : TypeId} {size n : Nat} {v : Value} {xs : List Value} (h : w.ownsRow base e size v n xs) (hm : ∀ k, v.ownBlock = some k → w1.heap[k]? = w.heap[k]?) : w1.ownsRow base e size v n xs := by
  obtain ⟨h1, h2⟩ := h
  refine ⟨h1, ?_⟩
  rcases h2 with h2 | ⟨g, cap, cur, rfl, hg, hh, r⟩
  · exact Or.inl h2
  · exact Or.inr ⟨g, cap, cur, rfl, hg, (hm g (by simp [Value.ownBlock])).trans hh, r⟩
theorem own_shape {w : World} {base : Nat} {e : TypeId} {size n : Nat} {v : Value} {xs : List Value} (h : w.ownsRow base e size v n xs) : ∃ A c, v = .slice A n c := by
  rcases h.2 with ⟨rfl, rfl⟩ | ⟨g, cap, cur, rfl, hg, hh, r⟩
  · exact ⟨none, 0, rfl⟩
  · exact ⟨_, cap, rfl⟩
theorem own_lt {w : World} {base : Nat} {e : TypeId} {size n : Nat} {v : Value} {xs : List Value} (h : w.ownsRow base e size v n xs) {b : Nat} (hb : v.ownBlock = some b) : base ≤ b ∧ b < w.heap.size := h.lt b hb

/-- **append(s, y): one element of sz cells, its own new block just laid.** -/
theorem app1 {P : Program} {ro : Option Nat} {n : Nat} {ops : Array Oper} {Q : Exit → Act → World → Prop} {rest : List Oper} {o : Oper} {a : Act} {W : World}
    (base : Nat) (hgd : o.guard = none) (s x : Operand) (t e : TypeId) (z : Value) (sz bytes : Nat)
    (ho : o.op = .call { callee := .builtin .append, args := #[s, x], argTypes := #[t, t] })
    (ht : P.underlying t = some (.slice e)) (hinfo : (P.info? e).map (fun i => (i.zero, i.size, i.bytes)) = some (some z, sz, bytes)) (hz : z.cells.size = sz) (hs0 : 0 < sz) (hb0 : 0 < bytes)
    (v : Value) (k : Nat) (xs ys : List Value) (hs : a.eval s = v) (hx : a.eval x = .slice (some ⟨W.heap.size, 0, none⟩) 1 1) (hys : ys.length = sz) (h1 : ∀ u ∈ ys, u.oneCell' = true)
    (HO : W.ownsRow base e sz v k xs) (hbase : base ≤ W.heap.size) (hl : (k + 1) * bytes ≤ 140737488355328)
    (h : ∀ v1 w1, w1.ownsRow base e sz v1 (k + 1) (xs ++ ys) → Mod (fun b => v.ownBlock = some b) W w1 → (∀ b, v1.ownBlock = some b → v.ownBlock = some b ∨ W.heap.size ≤ b) → (∃ A c, v1 = .slice A (k + 1) c) →
      wpListIn (FW ro) n P ops Q rest (a.put o.dst v1) w1) :
    wpListIn (FW ro) n P ops Q (o :: rest) a (W.alloc (.cells ys.toArray e)) := by
  obtain ⟨i0, hi, hzz⟩ := Option.map_eq_some_iff.1 hinfo
  simp only [Prod.mk.injEq] at hzz
  obtain ⟨hz0, hz1, hz2⟩ := hzz
  have hk : k + 1 ≤ 140737488355328 := Nat.le_trans (Nat.le_mul_of_pos_right _ hb0) hl
  refine wpListIn_append_own_at _ hgd s x t ho base e i0 z sz bytes ht hi hz0 hz1 hz2 hz hs0 v k xs hs (HO.alloc _) ⟨W.heap.size, 0, none⟩ 1 1 ys hx (by omega)
    (World.news_of_block (cs := ys.toArray) (t := e) (fr := (0, 0)) (heap_alloc_new W _)) h1 (by simp only [maxLen]; omega) hl (by simp; omega) ?_
  intro v1 w1 hown hg _ hat
  refine h v1 w1 hown (((Mod.refl _ W).alloc _).grown hg (fun k hk _ => hk)) (fun b hb => ?_) (own_shape hown)
  rcases hat with hat | hat
  · exact .inl (hat ▸ hb)
  · right
    rw [hat] at hb
    cases hb
    simp

/-- A variable's box that holds a row of the call's own, whose cells are 'vals k' behind k rounds. -/
def CollJ (box base : Nat) (t e : TypeId) (sz : Nat) (cnt : Nat → Nat) (vals : Nat → List Value) (Wr : Nat → Prop) (w : World) (k : Nat) (m : Nat → Prop) (A : World) : Prop :=
  ∃ v, m = (fun b => b = box ∨ v.ownBlock = some b) ∧ A.heap[box]? = some (.cells #[v] t (0, 0)) ∧ A.ownsRow base e sz v (cnt k) (vals k) ∧ Mod Wr w A
theorem CollJ.stab {box base : Nat} {t e : TypeId} {sz : Nat} {cnt : Nat → Nat} {vals : Nat → List Value} {Wr : Nat → Prop} {w : World} (n0 : Nat) (hn : w.heap.size ≤ n0) : Stab n0 Wr (CollJ box base t e sz cnt vals Wr w) := by
  rintro k m A B S ⟨v, rfl, hb, ho, hm⟩ hAB hS hS2
  exact ⟨v, rfl, hAB.heap hb (fun h => hS _ h (.inl rfl)), own_move ho (fun b h => hAB.block b (own_lt ho h).2 (fun hs => hS _ hs (.inr h))), hm.trans' hAB (fun b hlt h => hS2 b h (by omega))⟩
theorem CollJ.rng {box base : Nat} {t e : TypeId} {sz : Nat} {cnt : Nat → Nat} {vals : Nat → List Value} {Wr D : Nat → Prop} {w : World} (hD : ∀ b, D b ∨ Wr b → b < w.heap.size) (hbox : w.heap.size ≤ box) (hbase : w.heap.size ≤ base) :
    Rng D Wr (CollJ box base t e sz cnt vals Wr w) := by
  rintro k m A ⟨v, rfl, hb, ho, hm⟩ b (rfl | h)
  · exact ⟨(Array.getElem?_eq_some_iff.1 hb).1, fun h => by have := hD _ (.inl h); omega, fun h => by have := hD _ (.inr h); omega⟩
  · obtain ⟨h1, h2⟩ := own_lt ho h
    exact ⟨h2, fun h => by have := hD _ (.inl h); omega, fun h => by have := hD _ (.inr h); omega⟩
/-- Behind an append and the store back into the box. -/
theorem CollJ.next {box base : Nat} {t e : TypeId} {sz : Nat} {cnt : Nat → Nat} {vals : Nat → List Value} {Wr : Nat → Prop} {w A w1 : World} {k j : Nat} {v v1 : Value} {m : Nat → Prop}
    (hm : m = (fun b => b = box ∨ v.ownBlock = some b)) (hb : A.heap[box]? = some (.cells #[v] t (0, 0))) (hnv : v.ownBlock ≠ some box) (hA : Mod Wr w A) (hw : w.heap.size ≤ box) (hbase : w.heap.size ≤ base) (ho : A.ownsRow base e sz v k (vals k))
    (hown : w1.ownsRow base e sz v1 (cnt j) (vals j)) (hg : Mod (fun b => v.ownBlock = some b) A w1) (hv1 : ∀ b, v1.ownBlock = some b → v.ownBlock = some b ∨ A.heap.size ≤ b) :
    Mod m A (w1.setCell ⟨box, 0, none⟩ v1) ∧ (∀ b, (b = box ∨ v1.ownBlock = some b) → m b ∨ A.heap.size ≤ b) ∧ CollJ box base t e sz cnt vals Wr w j (fun b => b = box ∨ v1.ownBlock = some b) (w1.setCell ⟨box, 0, none⟩ v1) := by
  subst hm
  have hb1 : w1.heap[box]? = some (.cells #[v] t (0, 0)) := hg.heap hb hnv
  have hlt := (Array.getElem?_eq_some_iff.1 hb).1
  have hM : Mod (fun b => b = box ∨ v.ownBlock = some b) A (w1.setCell ⟨box, 0, none⟩ v1) := (hg.mono (fun _ _ h => .inr h)).setCell ⟨box, 0, none⟩ v1 (fun _ => .inl rfl)
  refine ⟨hM, fun b hb => hb.elim (fun h => .inl (.inl h)) (fun h => (hv1 b h).imp .inr id), v1, rfl, Boxed.set (B := box) v1 hb1, own_move hown (fun b hbv => ?_), hA.trans' hM (fun b hb h => ?_)⟩
  · refine Below.heap_setCell _ _ _ _ (fun e => ?_)
    subst e
    rcases hv1 _ hbv with h | h
    · exact hnv h
    · omega
  · rcases h with rfl | h
    · omega
    · have := (own_lt ho h).1; omega
end Go.Proofs.Ytobioeehfigmcaa
