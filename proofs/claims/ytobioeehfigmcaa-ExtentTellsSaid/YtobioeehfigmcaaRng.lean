/- The loop over a sequence, in a function's own frame and in a round's; and how a function that held such loops returns. No condition. -/
import Derived.Test.YtobioeehfigmcaaSeq
set_option linter.unusedSimpArgs false
set_option linter.unusedVariables false
namespace Go.Proofs.Ytobioeehfigmcaa
open Go Go.RowKit

/-- What stands behind a loop over a sequence, when it has run out. -/
abbrev Ran (J : Nat → (Nat → Prop) → World → Prop) (Wr : Nat → Prop) (It : World → Prop) (N : Nat) (m0 : Nat → Prop) (w : World) (m' : Nat → Prop) (B : World) : Prop :=
  (∀ b, m' b → m0 b ∨ w.heap.size ≤ b) ∧ Mod (fun b => m0 b ∨ Wr b) w B ∧ J N m' B ∧ It B

theorem wpIn_range0 {P : Program} {n : Nat} {g : Operand} {ps : Array Tmp} {assign body : Code} {Q : Exit → Act → World → Prop} {a : Act} {w : World}
    {f : Nat} {cap : Array Value} {D Wr : Nat → Prop} {It : Option Nat → World → Prop} {xs : List (Array Value)} (hv : a.eval g = .func (.func f) #[] cap) (hseq : SeqSpec P (.func (.func f) #[] cap) D Wr It xs w)
    (J : Nat → (Nat → Prop) → World → Prop) (Jx : Code → Nat → (Nat → Prop) → World → Prop) (m0 : Nat → Prop)
    (hps : ∀ x ∈ xs, x.size = ps.size) (hJ : Stab w.heap.size Wr J) (hJx : ∀ c, Stab w.heap.size Wr (Jx c)) (hR : Rng D Wr J) (h0 : J 0 m0 w)
    (hround : Rounds P n w.heap.size J Jx xs a.tmps ps assign body)
    (hdone : ∀ (d : Nat) (m' : Nat → Prop) (B : World), w.heap.size ≤ d → B.heap[d]? = some (.deferred (some [])) → ¬ m' d → Ran J Wr (It none) xs.length m0 w m' B →
      Q .normal { a with defers := { target := .collected d, args := #[] } :: a.defers } B)
    (hstop : ∀ (d : Nat) (m' : Nat → Prop) (B : World) (c : Code) (k : Nat), k < xs.length → w.heap.size ≤ d → B.heap[d]? = some (.deferred (some [])) → ¬ m' d → Ran (Jx c) Wr (It (some (k + 1))) (k + 1) m0 w m' B →
      c.wpIn (FW none) n P Q { a with defers := { target := .collected d, args := #[] } :: a.defers } B) :
    (Code.rangeFunc g ps assign body).wpIn (FW none) n P Q a w := by
  refine wpIn_rangeFunc ?_
  intro fn _
  have hrun := run_enterLoop_outer (P := P) (w := w) fn a.tmps ps assign body
  generalize hw1 : (w.alloc (.deferred (some []))).alloc (.loop { state := .ready, pending := none, fn, tmps := a.tmps, params := ps, assign, body, defers := w.heap.size }) = w1 at hrun
  have hm1 : Mod Nil0 w w1 := by rw [← hw1]; exact ((Mod.refl _ w).alloc _).alloc _
  have hl1 : w1.heap[w.heap.size + 1]? = some (.loop { state := .ready, pending := none, fn, tmps := a.tmps, params := ps, assign, body, defers := w.heap.size }) := by
    rw [← hw1]; have := World.alloc_heap_new (w.alloc (.deferred (some []))) (.loop { state := .ready, pending := none, fn, tmps := a.tmps, params := ps, assign, body, defers := w.heap.size }); rwa [World.size_alloc] at this
  have hd1 : w1.heap[w.heap.size]? = some (.deferred (some [])) := by
    rw [← hw1]; exact (Below.heap_alloc _ _ _ (by simp)).trans (World.alloc_heap_new w _)
  have hcall := callV_range (n := n) hseq [(w.heap.size, .deferred (some []))] hl1 hm1 (by omega) (by intro p hp; simp at hp; subst hp; exact ⟨hd1, Nat.le_refl _, by simp⟩) J Jx m0 hps hJ hJx hR h0 hround
  obtain ⟨he, hcall⟩ := callV_fn hcall
  refine ⟨w.heap.size + 1, [{ target := .collected w.heap.size, args := #[] }], w1, { target := .fn (.func f) cap, args := #[.func (.yield (w.heap.size + 1)) #[] #[]] }, w1, f,
    #[.func (.yield (w.heap.size + 1)) #[] #[]] ++ cap, w1, hrun, ?_, fun _ _ => trivial, ?_, fun hd => by simp at hd, ?_⟩
  · simp only [resolve, hv]
    simp [go_sem]
  · simp [invoke, go_sem, he _ w1]
  · refine (calls_FW hcall).mono ?_
    rintro e B ⟨⟨v, rfl⟩, m', r, hl, hb, hex, hml, hm', hmod, hend⟩
    have hlB : w.heap.size + 1 < B.heap.size := (Array.getElem?_eq_some_iff.1 hl).1
    have hout := run_endLoop (P := P) hl hb
    generalize hB' : B.putObj (w.heap.size + 1) (.loop { r with state := .exhausted }) = B' at hout
    have hmB : Mod (· = w.heap.size + 1) B B' := by rw [← hB']; exact (Mod.refl _ B).putObj _ _ (fun _ => rfl)
    have hmod' : Mod (fun b => m0 b ∨ Wr b) w B' := hmod.trans' hmB (fun b hb e => by subst e; omega)
    have hdef := hex (w.heap.size, .deferred (some [])) (by simp)
    have hdB : B'.heap[w.heap.size]? = some (.deferred (some [])) := hmB.heap hdef.1 (by simp)
    have hWr : ∀ b, Wr b → b < w.heap.size := fun b hb => hseq.1 b (.inr hb)
    have hseq1 := hseq.1
    refine ⟨r.pending, B', hout, ?_⟩
    cases hp : r.pending with
    | none =>
      rw [hp] at hend
      exact hdone _ m' B' (Nat.le_refl _) hdB hdef.2 ⟨hm', hmod', hJ _ _ _ _ _ hend.1 hmB (fun b hb hm => by subst hb; exact hml hm) (fun b hb hlt => by subst hb; omega), hseq.2.1 _ _ _ hend.2 (fun b hW => hmB.block b (by have := hWr b hW; omega) (fun e => by have := hWr b hW; omega))⟩
    | some c =>
      rw [hp] at hend
      obtain ⟨k, hk, hx, hit⟩ := hend
      exact hstop _ m' B' c k hk (Nat.le_refl _) hdB hdef.2 ⟨hm', hmod', hJx c _ _ _ _ _ hx hmB (fun b hb hm => by subst hb; exact hml hm) (fun b hb hlt => by subst hb; omega), hseq.2.1 _ _ _ hit (fun b hW => hmB.block b (by have := hWr b hW; omega) (fun e => by have := hWr b hW; omega))⟩


theorem wpIn_range1 {P : Program} {n : Nat} {g : Operand} {ps : Array Tmp} {assign body : Code} {Q : Exit → Act → World → Prop} {a : Act} {w : World}
    {f : Nat} {cap : Array Value} {D Wr : Nat → Prop} {It : Option Nat → World → Prop} {xs : List (Array Value)} {l0 : Nat} {r0 : Loop} (hl0 : w.heap[l0]? = some (.loop r0)) (hv : a.eval g = .func (.func f) #[] cap) (hseq : SeqSpec P (.func (.func f) #[] cap) D Wr It xs w)
    (J : Nat → (Nat → Prop) → World → Prop) (Jx : Code → Nat → (Nat → Prop) → World → Prop) (m0 : Nat → Prop)
    (hps : ∀ x ∈ xs, x.size = ps.size) (hJ : Stab w.heap.size Wr J) (hJx : ∀ c, Stab w.heap.size Wr (Jx c)) (hR : Rng D Wr J) (h0 : J 0 m0 w)
    (hround : Rounds P n w.heap.size J Jx xs a.tmps ps assign body)
    (hdone : ∀ (m' : Nat → Prop) (B : World), Ran J Wr (It none) xs.length m0 w m' B → Q .normal a B)
    (hstop : ∀ (m' : Nat → Prop) (B : World) (c : Code) (k : Nat), k < xs.length → Ran (Jx c) Wr (It (some (k + 1))) (k + 1) m0 w m' B → c.wpIn (FW (some l0)) n P Q a B) :
    (Code.rangeFunc g ps assign body).wpIn (FW (some l0)) n P Q a w := by
  refine wpIn_rangeFunc ?_
  intro fn _
  have hrun := run_enterLoop_inner (P := P) hl0 fn a.tmps ps assign body
  generalize hw1 : w.alloc (.loop { state := .ready, pending := none, fn, tmps := a.tmps, params := ps, assign, body, defers := r0.defers }) = w1 at hrun
  have hm1 : Mod Nil0 w w1 := by rw [← hw1]; exact (Mod.refl _ w).alloc _
  have hl1 : w1.heap[w.heap.size]? = some (.loop { state := .ready, pending := none, fn, tmps := a.tmps, params := ps, assign, body, defers := r0.defers }) := by
    rw [← hw1]; exact World.alloc_heap_new w _
  have hcall := callV_range (n := n) hseq [] hl1 hm1 (by omega) (by intro p hp; simp at hp) J Jx m0 hps hJ hJx hR h0 hround
  obtain ⟨he, hcall⟩ := callV_fn hcall
  refine ⟨w.heap.size, [], w1, { target := .fn (.func f) cap, args := #[.func (.yield (w.heap.size)) #[] #[]] }, w1, f,
    #[.func (.yield (w.heap.size)) #[] #[]] ++ cap, w1, hrun, ?_, fun _ _ => trivial, ?_, fun hd => by simp at hd, ?_⟩
  · simp only [resolve, hv]
    simp [go_sem]
  · simp [invoke, go_sem, he _ w1]
  · refine (calls_FW hcall).mono ?_
    rintro e B ⟨⟨v, rfl⟩, m', r, hl, hb, hex, hml, hm', hmod, hend⟩
    have hlB : w.heap.size < B.heap.size := (Array.getElem?_eq_some_iff.1 hl).1
    have hout := run_endLoop (P := P) hl hb
    generalize hB' : B.putObj (w.heap.size) (.loop { r with state := .exhausted }) = B' at hout
    have hmB : Mod (· = w.heap.size) B B' := by rw [← hB']; exact (Mod.refl _ B).putObj _ _ (fun _ => rfl)
    have hmod' : Mod (fun b => m0 b ∨ Wr b) w B' := hmod.trans' hmB (fun b hb e => by subst e; omega)
    have hWr : ∀ b, Wr b → b < w.heap.size := fun b hb => hseq.1 b (.inr hb)
    have hseq1 := hseq.1
    refine ⟨r.pending, B', hout, ?_⟩
    cases hp : r.pending with
    | none =>
      rw [hp] at hend
      exact hdone m' B' ⟨hm', hmod', hJ _ _ _ _ _ hend.1 hmB (fun b hb hm => by subst hb; exact hml hm) (fun b hb hlt => by subst hb; omega), hseq.2.1 _ _ _ hend.2 (fun b hW => hmB.block b (by have := hWr b hW; omega) (fun e => by have := hWr b hW; omega))⟩
    | some c =>
      rw [hp] at hend
      obtain ⟨k, hk, hx, hit⟩ := hend
      exact hstop m' B' c k hk ⟨hm', hmod', hJx c _ _ _ _ _ hx hmB (fun b hb hm => by subst hb; exact hml hm) (fun b hb hlt => by subst hb; omega), hseq.2.1 _ _ _ hit (fun b hW => hmB.block b (by have := hWr b hW; omega) (fun e => by have := hWr b hW; omega))⟩


/-- HOW A FUNCTION RETURNS BEHIND ONE LOOP OVER A SEQUENCE: the mark's block is shut. -/
theorem leaves_one {P : Program} {n : Nat} {fn : Func} {tmps : Array Value} {R : Ending → World → Prop} {d : Nat} {w : World} (hd : w.heap[d]? = some (.deferred (some [])))
    (h : ∃ v, (results fn tmps).run P (w.putObj d (.deferred none)) = .ok v (w.putObj d (.deferred none)) ∧ R (.returned v) (w.putObj d (.deferred none))) :
    LeavesInM (FW none) n P fn tmps R [{ target := .collected d, args := #[] }] .returning w :=
  ⟨by simp, .inl ⟨_, _, rfl, run_takeDeferred hd, h⟩⟩
end Go.Proofs.Ytobioeehfigmcaa
