/- Sequences whose elements are told by a relation (new memory handed over), and the loop over one. No condition. -/
import Derived.Test.YtobioeehfigmcaaRng
set_option linter.unusedSimpArgs false
set_option linter.unusedVariables false
namespace Go.Proofs.Ytobioeehfigmcaa
open Go Go.RowKit

def YPostG (J Jx : Nat → (Nat → Prop) → World → Prop) (k : Nat) (m g : Nat → Prop) (A : World) (e : Ending) (B : World) : Prop :=
  ∃ m', Mod m A B ∧ (∀ b, m' b → m b ∨ g b ∨ A.heap.size ≤ b) ∧
    ((e = .returned (.bool true) ∧ J (k + 1) m' B) ∨ (e = .returned (.bool false) ∧ Jx (k + 1) m' B))
/-- The k-th element's arguments are told by E; its blocks g go over to the consumer. -/
def SeqRel (P : Program) (v : Value) (D Wr : Nat → Prop) (It : Option Nat → World → Prop) (N : Nat) (E : Nat → Array Value → (Nat → Prop) → World → Prop) (w : World) : Prop :=
  (∀ b, D b ∨ Wr b → b < w.heap.size) ∧ ItStab Wr It ∧
  ∀ (yf : Fn) (ya yc : Array Value) (J Jx : Nat → (Nat → Prop) → World → Prop) (m : Nat → Prop) (W : World),
    w.heap.size ≤ W.heap.size → (∀ b, D b ∨ Wr b → W.heap[b]? = w.heap[b]?) →
    Stab W.heap.size Wr J → Stab W.heap.size Wr Jx → Rng D Wr J →
    (∀ k (hk : k < N) m A args g, J k m A → E k args g A → (∀ b, g b → W.heap.size ≤ b ∧ b < A.heap.size ∧ ¬ m b) → W.heap.size ≤ A.heap.size → CallV P (.func yf ya yc) args A (YPostG J Jx k m g A)) →
    J 0 m W → CallV P v #[.func yf ya yc] W (SPost J Jx Wr It N m W)
theorem SeqRel.later {P : Program} {v : Value} {D Wr : Nat → Prop} {It : Option Nat → World → Prop} {N : Nat} {E : Nat → Array Value → (Nat → Prop) → World → Prop} {w w' : World} (h : SeqRel P v D Wr It N E w)
    (hs : w.heap.size ≤ w'.heap.size) (hd : ∀ b, D b ∨ Wr b → w'.heap[b]? = w.heap[b]?) : SeqRel P v D Wr It N E w' :=
  ⟨fun b hb => Nat.lt_of_lt_of_le (h.1 b hb) hs, h.2.1, fun yf ya yc J Jx m W hW hD hJ hJx hR hY h0 => h.2.2 yf ya yc J Jx m W (Nat.le_trans hs hW) (fun b hb => (hD b hb).trans (hd b hb)) hJ hJx hR hY h0⟩
theorem SeqRel.mod {P : Program} {v : Value} {D Wr : Nat → Prop} {It : Option Nat → World → Prop} {N : Nat} {E : Nat → Array Value → (Nat → Prop) → World → Prop} {w w' : World} (h : SeqRel P v D Wr It N E w)
    {S : Nat → Prop} (hm : Mod S w w') (hd : ∀ b, D b ∨ Wr b → ¬ S b) : SeqRel P v D Wr It N E w' :=
  h.later hm.size (fun b hb => hm.block b (h.1 b hb) (hd b hb))

/-- What the body of a round must show, by the way in which it is left. -/
def RPostG (J : Nat → (Nat → Prop) → World → Prop) (Jx : Code → Nat → (Nat → Prop) → World → Prop) (k : Nat) (m g : Nat → Prop) (A A2 : World) : Exit → Act → World → Prop
  | .normal, _, B => ∃ m', Mod m A2 B ∧ (∀ b, m' b → m b ∨ g b ∨ A.heap.size ≤ b) ∧ J (k + 1) m' B
  | .ret, _, B => ∃ m', Mod m A2 B ∧ (∀ b, m' b → m b ∨ g b ∨ A.heap.size ≤ b) ∧ Jx .ret (k + 1) m' B
  | .exit id, _, B => ∃ m', Mod m A2 B ∧ (∀ b, m' b → m b ∨ g b ∨ A.heap.size ≤ b) ∧ Jx (.exit id) (k + 1) m' B
  | .goto t, _, B => ∃ m', Mod m A2 B ∧ (∀ b, m' b → m b ∨ g b ∨ A.heap.size ≤ b) ∧ Jx (.goto t) (k + 1) m' B
  | .panic _, _, _ => False
  | .outgrown, _, _ => False

/-- The rounds, as the loop's user shows them. -/
def RoundsG (P : Program) (n n0 N : Nat) (E : Nat → Array Value → (Nat → Prop) → World → Prop) (J : Nat → (Nat → Prop) → World → Prop) (Jx : Code → Nat → (Nat → Prop) → World → Prop) (tmps : Array Value) (ps : Array Tmp) (assign body : Code) : Prop :=
  ∀ (l k : Nat) (hk : k < N) (m g : Nat → Prop) (A : World) (args : Array Value), n0 ≤ l → l < A.heap.size → ¬ m l → J k m A → E k args g A → (∀ b, g b → n0 ≤ b ∧ b < A.heap.size ∧ ¬ m b ∧ b ≠ l) →
    assign.wpIn (FW (some l)) n P (Exit.then (fun a1 A1 => Mod Nil0 A A1 ∧ ∀ A2, Mod (· = l) A1 A2 → (∃ r, A2.heap[l]? = some (.loop r)) → J k m A2 →
      body.wpIn (FW (some l)) n P (RPostG J Jx k m g A A2) a1 A2) (fun _ _ _ => False))
      { tmps := (ps.zip args).foldl (fun t (p, v) => t.setIfInBounds p v) tmps, defers := [] } A

/-- THE CALL OF THE SEQUENCE FROM A LOOP: the record's block is l; ex: further blocks that nobody turns. -/
theorem callV_rangeG {P : Program} {n : Nat} {v : Value} {D Wr : Nat → Prop} {It : Option Nat → World → Prop} {N : Nat} {E : Nat → Array Value → (Nat → Prop) → World → Prop} {w w1 : World} (hseq : SeqRel P v D Wr It N E w)
    {l fn : Nat} {tmps : Array Value} {ps : Array Tmp} {assign body : Code} {dfr : Nat} (ex : List (Nat × Obj))
    (hl : w1.heap[l]? = some (.loop { state := .ready, pending := none, fn, tmps, params := ps, assign, body, defers := dfr })) (hw1 : Mod Nil0 w w1) (hlw : w.heap.size ≤ l)
    (hex : ∀ p ∈ ex, w1.heap[p.1]? = some p.2 ∧ w.heap.size ≤ p.1 ∧ p.1 ≠ l)
    (J : Nat → (Nat → Prop) → World → Prop) (Jx : Code → Nat → (Nat → Prop) → World → Prop) (m0 : Nat → Prop)
    (hps : ∀ k args g A, E k args g A → args.size = ps.size) (hJ : Stab w.heap.size Wr J) (hJx : ∀ c, Stab w.heap.size Wr (Jx c)) (hR : Rng D Wr J) (h0 : J 0 m0 w)
    (hround : RoundsG P n w.heap.size N E J Jx tmps ps assign body) :
    CallV P v #[.func (.yield l) #[] #[]] w1 fun e B => (∃ r, e = .returned r) ∧ ∃ (m' : Nat → Prop) (r : Loop), B.heap[l]? = some (.loop r) ∧ r.state ≠ .busy ∧
      (∀ p ∈ ex, B.heap[p.1]? = some p.2 ∧ ¬ m' p.1) ∧ ¬ m' l ∧ (∀ b, m' b → m0 b ∨ w.heap.size ≤ b) ∧ Mod (fun b => m0 b ∨ Wr b) w B ∧
      (match r.pending with
       | none => J N m' B ∧ It none B
       | some c => ∃ k, k < N ∧ Jx c (k + 1) m' B ∧ It (some (k + 1)) B) := by
  obtain ⟨rec, hrec⟩ : ∃ rec : LoopState → Option Code → Loop, rec = fun st pe => { state := st, pending := pe, fn, tmps, params := ps, assign, body, defers := dfr } := ⟨_, rfl⟩
  have hl1 : w1.heap[l]? = some (.loop (rec .ready none)) := by rw [hrec]; exact hl
  have hDl : ∀ b, D b ∨ Wr b → b < w.heap.size := hseq.1
  -- the law's own words
  let ext : (Nat → Prop) → Nat → Prop := fun m b => m b ∨ b = l ∨ ∃ p ∈ ex, p.1 = b
  let off : World → (Nat → Prop) → Prop := fun A m => (∀ p ∈ ex, A.heap[p.1]? = some p.2 ∧ ¬ m p.1) ∧ ¬ m l
  let J' : Nat → (Nat → Prop) → World → Prop := fun k M A => ∃ m, M = ext m ∧ J k m A ∧ A.heap[l]? = some (.loop (rec .ready none)) ∧ off A m
  let Jx' : Nat → (Nat → Prop) → World → Prop := fun k M A => ∃ m c, M = ext m ∧ Jx c k m A ∧ A.heap[l]? = some (.loop (rec .done (some c))) ∧ off A m
  have hsz : w.heap.size ≤ w1.heap.size := hw1.size
  have hm0 : ∀ b, m0 b → b < w.heap.size := fun b hb => (hR 0 m0 w h0 b hb).1
  have hoff : ∀ {A B : World} {m S : Nat → Prop}, off A m → Mod S A B → (∀ p ∈ ex, ¬ S p.1) → off B m := fun ho hm hS =>
    ⟨fun p hp => ⟨hm.heap (ho.1 p hp).1 (hS p hp), (ho.1 p hp).2⟩, ho.2⟩
  have hst : Stab w1.heap.size Wr J' := by
    rintro k M A B S ⟨m, rfl, hj, hll, ho⟩ hm hS hS2
    exact ⟨m, rfl, hJ k m A B S hj hm (fun b hs hb => hS b hs (.inl hb)) (fun b hs hb => hS2 b hs (by omega)), hm.heap hll (fun hs => hS _ hs (.inr (.inl rfl))), hoff ho hm (fun p hp hs => hS _ hs (.inr (.inr ⟨p, hp, rfl⟩)))⟩
  have hstx : Stab w1.heap.size Wr Jx' := by
    rintro k M A B S ⟨m, c, rfl, hj, hll, ho⟩ hm hS hS2
    exact ⟨m, c, rfl, hJx c k m A B S hj hm (fun b hs hb => hS b hs (.inl hb)) (fun b hs hb => hS2 b hs (by omega)), hm.heap hll (fun hs => hS _ hs (.inr (.inl rfl))), hoff ho hm (fun p hp hs => hS _ hs (.inr (.inr ⟨p, hp, rfl⟩)))⟩
  have hrng : Rng D Wr J' := by
    rintro k M A ⟨m, rfl, hj, hll, ho⟩ b (hb | rfl | ⟨p, hp, rfl⟩)
    · exact hR k m A hj b hb
    · exact ⟨(Array.getElem?_eq_some_iff.1 hll).1, fun hd => by have := hDl b (.inl hd); omega, fun hd => by have := hDl b (.inr hd); omega⟩
    · exact ⟨(Array.getElem?_eq_some_iff.1 (ho.1 p hp).1).1, fun hd => by have := hDl _ (.inl hd); have := (hex p hp).2.1; omega, fun hd => by have := hDl _ (.inr hd); have := (hex p hp).2.1; omega⟩
  refine (hseq.2.2 _ _ _ J' Jx' (ext m0) w1 hsz (fun b hb => hw1.block b (hDl b hb) (fun hf => hf)) hst hstx hrng ?_ ⟨m0, rfl, hJ 0 m0 w w1 Nil0 h0 hw1 (fun _ hf => hf.elim) (fun _ hf => hf.elim), hl1, ⟨fun p hp => ⟨(hex p hp).1, fun hm => by have := hm0 _ hm; have := (hex p hp).2.1; omega⟩, fun hm => by have := hm0 _ hm; omega⟩⟩).mono ?_
  · -- a round
    rintro k hk M A args g ⟨m, rfl, hj, hll, ho⟩ hE hg hA
    have hlt : l < A.heap.size := (Array.getElem?_eq_some_iff.1 hll).1
    have hy := run_yield (P := P) (args := args) hll (by rw [hrec]; exact hps _ _ _ _ hE)
    rw [hrec] at hy
    refine .yield l _ _ _ ⟨fn, _, assign, body, hy, ?_⟩
    refine RoundIn.anyN (n := n) rfl (roundIn_of_wpIn (F := Fence.wide) trivial ?_)
    have hr := hround l k hk m g A args hlw hlt ho.2 hj hE (fun b hb => ⟨Nat.le_trans hsz (hg b hb).1, (hg b hb).2.1, fun h => (hg b hb).2.2 (.inl h), fun h => (hg b hb).2.2 (.inr (.inl h))⟩)
    refine wpIn_mono hr ?_
    rintro e a1 A1 hq
    cases e with
    | normal =>
      obtain ⟨hm1, hbody⟩ := hq
      have hl2 : A1.heap[l]? = some (.loop (rec .ready none)) := hm1.heap hll (fun hf => hf)
      refine ⟨_, run_beginRound hl2 (by rw [hrec]), ?_⟩
      have hlt1 : l < A1.heap.size := (Array.getElem?_eq_some_iff.1 hl2).1
      have hmo : Mod (· = l) A1 (A1.putObj l (.loop { rec .ready none with state := .busy })) := (Mod.refl _ A1).putObj l _ (fun _ => rfl)
      have hl3 : (A1.putObj l (.loop { rec .ready none with state := .busy })).heap[l]? = some (.loop { rec .ready none with state := .busy }) := World.putObj_heap_same hlt1
      have hj2 : J k m (A1.putObj l (.loop { rec .ready none with state := .busy })) :=
        hJ k m A1 _ (· = l) (hJ k m A A1 Nil0 hj hm1 (fun _ hf => hf.elim) (fun _ hf => hf.elim)) hmo (fun b hb hm => by subst hb; exact ho.2 hm) (fun b hb hlt => by subst hb; omega)
      refine wpIn_mono (hbody _ hmo ⟨_, hl3⟩ hj2) ?_
      generalize hA2 : A1.putObj l (.loop { rec .ready none with state := .busy }) = A2 at hmo hl3 hj2 ⊢
      have ho2 : off A2 m := hoff (hoff ho hm1 (fun p hp hf => hf)) hmo (fun p hp e => (hex p hp).2.2 e)
      have hA12 : A1.heap.size ≤ A2.heap.size := hmo.size
      -- the round's end, whatever the jump
      have key : ∀ (jump : Option Code) (B : World) (m' : Nat → Prop), Mod m A2 B → (∀ b, m' b → m b ∨ g b ∨ A.heap.size ≤ b) →
          (∃ v, (Instr.endRound l jump).run P B = .ok v (B.putObj l (.loop (rec (if jump.isNone then .ready else .done) jump))) ∧ v = .bool jump.isNone) ∧
          Mod (ext m) A (B.putObj l (.loop (rec (if jump.isNone then .ready else .done) jump))) ∧
          Mod (· = l) B (B.putObj l (.loop (rec (if jump.isNone then .ready else .done) jump))) ∧
          (B.putObj l (.loop (rec (if jump.isNone then .ready else .done) jump))).heap[l]? = some (.loop (rec (if jump.isNone then .ready else .done) jump)) ∧
          off (B.putObj l (.loop (rec (if jump.isNone then .ready else .done) jump))) m' ∧ (∀ b, ext m' b → ext m b ∨ g b ∨ A.heap.size ≤ b) := by
        intro jump B m' hB hm'
        have hlB : B.heap[l]? = some (.loop { rec .ready none with state := .busy }) := hB.heap hl3 ho.2
        have hend := run_endRound (P := P) jump hlB
        rw [hrec] at hend ⊢
        rw [hrec] at hlB
        have hmB : Mod (· = l) B (B.putObj l (.loop { state := if jump.isNone then .ready else .done, pending := jump, fn, tmps, params := ps, assign, body, defers := dfr })) := (Mod.refl _ B).putObj l _ (fun _ => rfl)
        refine ⟨⟨_, hend, rfl⟩, ?_, hmB, World.putObj_heap_same (Array.getElem?_eq_some_iff.1 hlB).1, ?_, ?_⟩
        · refine (((hm1.mono (T := ext m) (fun _ _ hf => hf.elim)).trans' hmo (fun b hb e => .inr (.inl e))).trans' hB (fun b hb e => .inl e)).trans' hmB (fun b hb e => .inr (.inl e))
        · refine ⟨fun p hp => ⟨hmB.heap (hB.heap (ho2.1 p hp).1 (ho2.1 p hp).2) (fun e => (hex p hp).2.2 e), fun h => ?_⟩, fun h => ?_⟩
          · rcases hm' _ h with h | h | h
            · exact (ho.1 p hp).2 h
            · exact (hg _ h).2.2 (.inr (.inr ⟨p, hp, rfl⟩))
            · have := (Array.getElem?_eq_some_iff.1 (ho.1 p hp).1).1
              omega
          · rcases hm' _ h with h | h | h
            · exact ho.2 h
            · exact (hg _ h).2.2 (.inr (.inl rfl))
            · omega
        · rintro b (h | h | h)
          · rcases hm' _ h with h | h | h
            · exact .inl (.inl h)
            · exact .inr (.inl h)
            · exact .inr (.inr h)
          · exact .inl (.inr (.inl h))
          · exact .inl (.inr (.inr h))
      rintro e a3 B hp
      have fin : ∀ (c : Code) (m' : Nat → Prop), Mod m A2 B → (∀ b, m' b → m b ∨ g b ∨ A.heap.size ≤ b) → Jx c (k + 1) m' B →
          ∃ v w', (Instr.endRound l (some c)).run P B = .ok v w' ∧ YPostG J' Jx' k (ext m) g A (.returned v) w' := by
        intro c m' hB hm' hx
        obtain ⟨⟨v, hv, rfl⟩, h1, h2, h3, h4, h5⟩ := key (some c) B m' hB hm'
        exact ⟨_, _, hv, ext m', h1, h5, .inr ⟨rfl, m', c, rfl, hJx c _ _ _ _ _ hx h2 (fun b hb hm => by subst hb; exact h4.2 hm) (fun b hb hlt => by subst hb; omega), h3, h4⟩⟩
      cases e with
      | normal =>
        obtain ⟨m', hB, hm', hx⟩ := hp
        obtain ⟨⟨v, hv, rfl⟩, h1, h2, h3, h4, h5⟩ := key none B m' hB hm'
        exact ⟨_, _, hv, ext m', h1, h5, .inl ⟨rfl, m', rfl, hJ _ _ _ _ _ hx h2 (fun b hb hm => by subst hb; exact h4.2 hm) (fun b hb hlt => by subst hb; omega), h3, h4⟩⟩
      | ret => obtain ⟨m', hB, hm', hx⟩ := hp; exact fin .ret m' hB hm' hx
      | exit id => obtain ⟨m', hB, hm', hx⟩ := hp; exact fin (.exit id) m' hB hm' hx
      | goto t => obtain ⟨m', hB, hm', hx⟩ := hp; exact fin (.goto t) m' hB hm' hx
      | panic ch => exact hp.elim
      | outgrown => exact hp.elim
    | _ => exact hq.elim
  · rintro e B ⟨hv, M, hM, hmod, hend⟩
    have hmod' : ∀ {m : Nat → Prop}, M = ext m → (∀ b, m b → m0 b ∨ w.heap.size ≤ b) ∧ Mod (fun b => m0 b ∨ Wr b) w B := by
      rintro m rfl
      refine ⟨fun b hb => ?_, ?_⟩
      · rcases hM b (.inl hb) with (h | rfl | ⟨p, hp, rfl⟩) | h
        · exact .inl h
        · exact .inr hlw
        · exact .inr (hex p hp).2.1
        · exact .inr (by omega)
      · refine (hw1.mono (fun _ _ hf => hf.elim)).trans' hmod (fun b hb h => ?_)
        rcases h with (h | rfl | ⟨p, hp, rfl⟩) | h
        · exact .inl h
        · omega
        · have := (hex p hp).2.1; omega
        · exact .inr h
    rcases hend with ⟨⟨m, rfl, hj, hll, ho⟩, hit⟩ | ⟨k, hk, ⟨m, c, rfl, hj, hll, ho⟩, hit⟩
    · obtain ⟨h1, h2⟩ := hmod' rfl
      rw [hrec] at hll
      exact ⟨hv, m, _, hll, by simp, ho.1, ho.2, h1, h2, hj, hit⟩
    · obtain ⟨h1, h2⟩ := hmod' rfl
      rw [hrec] at hll
      exact ⟨hv, m, _, hll, by simp, ho.1, ho.2, h1, h2, k, hk, hj, hit⟩
theorem wpIn_rangeG0 {P : Program} {n : Nat} {g : Operand} {ps : Array Tmp} {assign body : Code} {Q : Exit → Act → World → Prop} {a : Act} {w : World}
    {f : Nat} {cap : Array Value} {D Wr : Nat → Prop} {It : Option Nat → World → Prop} {N : Nat} {E : Nat → Array Value → (Nat → Prop) → World → Prop} (hv : a.eval g = .func (.func f) #[] cap) (hseq : SeqRel P (.func (.func f) #[] cap) D Wr It N E w)
    (J : Nat → (Nat → Prop) → World → Prop) (Jx : Code → Nat → (Nat → Prop) → World → Prop) (m0 : Nat → Prop)
    (hps : ∀ k args g A, E k args g A → args.size = ps.size) (hJ : Stab w.heap.size Wr J) (hJx : ∀ c, Stab w.heap.size Wr (Jx c)) (hR : Rng D Wr J) (h0 : J 0 m0 w)
    (hround : RoundsG P n w.heap.size N E J Jx a.tmps ps assign body)
    (hdone : ∀ (d : Nat) (m' : Nat → Prop) (B : World), w.heap.size ≤ d → B.heap[d]? = some (.deferred (some [])) → ¬ m' d → Ran J Wr (It none) N m0 w m' B →
      Q .normal { a with defers := { target := .collected d, args := #[] } :: a.defers } B)
    (hstop : ∀ (d : Nat) (m' : Nat → Prop) (B : World) (c : Code) (k : Nat), k < N → w.heap.size ≤ d → B.heap[d]? = some (.deferred (some [])) → ¬ m' d → Ran (Jx c) Wr (It (some (k + 1))) (k + 1) m0 w m' B →
      c.wpIn (FW none) n P Q { a with defers := { target := .collected d, args := #[] } :: a.defers } B) :
    (Code.rangeFunc g ps assign body).wpIn (FW none) n P Q a w := by
  refine wpIn_rangeFunc ?_
  intro fn _
  have hrun := run_enterLoop_outer (P := P) (w := w) fn a.tmps ps assign body
  generalize hw1 : (w.alloc (.deferred (some []))).alloc (.loop { state := .ready, pending := none, fn, tmps := a.tmps, params := ps, assign, body, defers := w.heap.size }) = w1 at hrun
  have hm1 : Mod Nil0 w w1 := by rw [← hw1]; exact ((Mod.refl _ w).alloc _).alloc _
  have hl1 : w1.heap[w.heap.size + 1]? = some (.loop { state := .ready, pending := none, fn, tmps := a.tmps, params := ps, assign, body, defers := w.heap.size }) := by
    rw [← hw1]; have := World.alloc_heap_new (w.alloc (.deferred (some []))) (.loop { state := .ready, pending := none, fn, tmps := a.tmps, params := ps, assign, body, defers := w.heap.size }); rwa [World.size_alloc] at this
  have hd1 : w1.heap[w.heap.size]? = some (.deferred (some [])) := by
    rw [← hw1]; exact (Below.heap_alloc _ _ _ (by simp)).trans (World.alloc_heap_new w _)
  have hcall := callV_rangeG (n := n) hseq [(w.heap.size, .deferred (some []))] hl1 hm1 (by omega) (by intro p hp; simp at hp; subst hp; exact ⟨hd1, Nat.le_refl _, by simp⟩) J Jx m0 hps hJ hJx hR h0 hround
  obtain ⟨he, hcall⟩ := callV_fn hcall
  refine ⟨w.heap.size + 1, [{ target := .collected w.heap.size, args := #[] }], w1, { target := .fn (.func f) cap, args := #[.func (.yield (w.heap.size + 1)) #[] #[]] }, w1, f,
    #[.func (.yield (w.heap.size + 1)) #[] #[]] ++ cap, w1, hrun, ?_, fun _ _ => trivial, ?_, fun hd => by simp at hd, ?_⟩
  · simp only [resolve, hv]
    simp [go_sem]
  · simp [invoke, go_sem, he _ w1]
  · refine (calls_FW hcall).mono ?_
    rintro e B ⟨⟨v, rfl⟩, m', r, hl, hb, hex, hml, hm', hmod, hend⟩
    have hlB : w.heap.size + 1 < B.heap.size := (Array.getElem?_eq_some_iff.1 hl).1
    have hout := run_endLoop (P := P) hl hb
    generalize hB' : B.putObj (w.heap.size + 1) (.loop { r with state := .exhausted }) = B' at hout
    have hmB : Mod (· = w.heap.size + 1) B B' := by rw [← hB']; exact (Mod.refl _ B).putObj _ _ (fun _ => rfl)
    have hmod' : Mod (fun b => m0 b ∨ Wr b) w B' := hmod.trans' hmB (fun b hb e => by subst e; omega)
    have hdef := hex (w.heap.size, .deferred (some [])) (by simp)
    have hdB : B'.heap[w.heap.size]? = some (.deferred (some [])) := hmB.heap hdef.1 (by simp)
    have hWr : ∀ b, Wr b → b < w.heap.size := fun b hb => hseq.1 b (.inr hb)
    have hseq1 := hseq.1
    refine ⟨r.pending, B', hout, ?_⟩
    cases hp : r.pending with
    | none =>
      rw [hp] at hend
      exact hdone _ m' B' (Nat.le_refl _) hdB hdef.2 ⟨hm', hmod', hJ _ _ _ _ _ hend.1 hmB (fun b hb hm => by subst hb; exact hml hm) (fun b hb hlt => by subst hb; omega), hseq.2.1 _ _ _ hend.2 (fun b hW => hmB.block b (by have := hWr b hW; omega) (fun e => by have := hWr b hW; omega))⟩
    | some c =>
      rw [hp] at hend
      obtain ⟨k, hk, hx, hit⟩ := hend
      exact hstop _ m' B' c k hk (Nat.le_refl _) hdB hdef.2 ⟨hm', hmod', hJx c _ _ _ _ _ hx hmB (fun b hb hm => by subst hb; exact hml hm) (fun b hb hlt => by subst hb; omega), hseq.2.1 _ _ _ hit (fun b hW => hmB.block b (by have := hWr b hW; omega) (fun e => by have := hWr b hW; omega))⟩


end Go.Proofs.Ytobioeehfigmcaa
