/- What a sequence (an iterator's function value) promises, and the rule for a loop over one. No condition. -/
import Derived.Test.YtobioeehfigmcaaBase
set_option linter.unusedSimpArgs false
set_option linter.unusedVariables false
namespace Go.Proofs.Ytobioeehfigmcaa
open Go Go.RowKit

/-- What J says of (k, m, A) lies in the blocks of m, and in those below n0 that Wr leaves alone. -/
def Stab (n0 : Nat) (Wr : Nat → Prop) (J : Nat → (Nat → Prop) → World → Prop) : Prop :=
  ∀ k m A B S, J k m A → Mod S A B → (∀ b, S b → ¬ m b) → (∀ b, S b → b < n0 → Wr b) → J k m B
def Rng (D Wr : Nat → Prop) (J : Nat → (Nat → Prop) → World → Prop) : Prop :=
  ∀ k m A, J k m A → ∀ b, m b → b < A.heap.size ∧ ¬ D b ∧ ¬ Wr b
theorem Stab.const {n0 : Nat} {Wr : Nat → Prop} {J : Nat → (Nat → Prop) → World → Prop} (p : Nat → Prop) (h : Stab n0 Wr J) : Stab n0 Wr (fun k m A => p k ∧ J k m A) :=
  fun k m A B S hj hm h1 h2 => ⟨hj.1, h k m A B S hj.2 hm h1 h2⟩
/-- How a round ends. -/
def YPost (J Jx : Nat → (Nat → Prop) → World → Prop) (k : Nat) (m : Nat → Prop) (A : World) (e : Ending) (B : World) : Prop :=
  ∃ m', Mod m A B ∧ (∀ b, m' b → m b ∨ A.heap.size ≤ b) ∧
    ((e = .returned (.bool true) ∧ J (k + 1) m' B) ∨ (e = .returned (.bool false) ∧ Jx (k + 1) m' B))
/-- How the sequence's call ends. -/
def SPost (J Jx : Nat → (Nat → Prop) → World → Prop) (Wr : Nat → Prop) (It : Option Nat → World → Prop) (N : Nat) (m : Nat → Prop) (W : World) (e : Ending) (B : World) : Prop :=
  (∃ r, e = .returned r) ∧ ∃ m', (∀ b, m' b → m b ∨ W.heap.size ≤ b) ∧ Mod (fun b => m b ∨ Wr b) W B ∧
    ((J N m' B ∧ It none B) ∨ ∃ k, k < N ∧ Jx (k + 1) m' B ∧ It (some (k + 1)) B)
def ItStab (Wr : Nat → Prop) (It : Option Nat → World → Prop) : Prop := ∀ (k : Option Nat) (A B : World), It k A → (∀ b, Wr b → B.heap[b]? = A.heap[b]?) → It k B
/-- THE CONTRACT OF A SEQUENCE: it hands on just xs, and stops where it is told to. D: the blocks that it reads; Wr: the old blocks that it writes, of which It speaks. -/
def SeqSpec (P : Program) (v : Value) (D Wr : Nat → Prop) (It : Option Nat → World → Prop) (xs : List (Array Value)) (w : World) : Prop :=
  (∀ b, D b ∨ Wr b → b < w.heap.size) ∧ ItStab Wr It ∧
  ∀ (yf : Fn) (ya yc : Array Value) (J Jx : Nat → (Nat → Prop) → World → Prop) (m : Nat → Prop) (W : World),
    w.heap.size ≤ W.heap.size → (∀ b, D b ∨ Wr b → W.heap[b]? = w.heap[b]?) →
    Stab W.heap.size Wr J → Stab W.heap.size Wr Jx → Rng D Wr J →
    (∀ k (hk : k < xs.length) m A, J k m A → W.heap.size ≤ A.heap.size → CallV P (.func yf ya yc) xs[k] A (YPost J Jx k m A)) →
    J 0 m W → CallV P v #[.func yf ya yc] W (SPost J Jx Wr It xs.length m W)
/-- A sequence that writes nothing old. -/
abbrev IsSeq (P : Program) (v : Value) (D : Nat → Prop) (xs : List (Array Value)) (w : World) : Prop := SeqSpec P v D Nil0 (fun _ _ => True) xs w

theorem SeqSpec.later {P : Program} {v : Value} {D Wr : Nat → Prop} {It : Option Nat → World → Prop} {xs : List (Array Value)} {w w' : World} (h : SeqSpec P v D Wr It xs w)
    (hs : w.heap.size ≤ w'.heap.size) (hd : ∀ b, D b ∨ Wr b → w'.heap[b]? = w.heap[b]?) : SeqSpec P v D Wr It xs w' :=
  ⟨fun b hb => Nat.lt_of_lt_of_le (h.1 b hb) hs, h.2.1, fun yf ya yc J Jx m W hW hD hJ hJx hR hY h0 => h.2.2 yf ya yc J Jx m W (Nat.le_trans hs hW) (fun b hb => (hD b hb).trans (hd b hb)) hJ hJx hR hY h0⟩
theorem SeqSpec.mod {P : Program} {v : Value} {D Wr : Nat → Prop} {It : Option Nat → World → Prop} {xs : List (Array Value)} {w w' : World} (h : SeqSpec P v D Wr It xs w)
    {S : Nat → Prop} (hm : Mod S w w') (hd : ∀ b, D b ∨ Wr b → ¬ S b) : SeqSpec P v D Wr It xs w' :=
  h.later hm.size (fun b hb => hm.block b (h.1 b hb) (hd b hb))

theorem callV_fn {P : Program} {f : Nat} {cap args : Array Value} {w : World} {R : Ending → World → Prop} (h : CallV P (.func (.func f) #[] cap) args w R) : Enters P f ∧ Calls P f (args ++ cap) w R := by
  cases h with
  | fn _ _ _ _ _ he h => exact ⟨he, h⟩

theorem mod_step {m m' Wr : Nat → Prop} {W A B : World} (h : Mod (fun b => m b ∨ Wr b) W A) (hm' : ∀ b, m' b → m b ∨ W.heap.size ≤ b) (h2 : Mod m' A B) : Mod (fun b => m b ∨ Wr b) W B :=
  h.trans' h2 (fun b hb h => (hm' b h).elim .inl (fun h => by omega))
theorem sub_step {m m' m2 : Nat → Prop} {W A : World} (hm' : ∀ b, m' b → m b ∨ W.heap.size ≤ b) (hm2 : ∀ b, m2 b → m' b ∨ A.heap.size ≤ b) (hs : W.heap.size ≤ A.heap.size) : ∀ b, m2 b → m b ∨ W.heap.size ≤ b :=
  fun b hb => (hm2 b hb).elim (hm' b) (fun h => .inr (Nat.le_trans hs h))
/-- What the body of a round must show, by the way in which it is left. -/
def RPost (J : Nat → (Nat → Prop) → World → Prop) (Jx : Code → Nat → (Nat → Prop) → World → Prop) (k : Nat) (m : Nat → Prop) (A A2 : World) : Exit → Act → World → Prop
  | .normal, _, B => ∃ m', Mod m A2 B ∧ (∀ b, m' b → m b ∨ A.heap.size ≤ b) ∧ J (k + 1) m' B
  | .ret, _, B => ∃ m', Mod m A2 B ∧ (∀ b, m' b → m b ∨ A.heap.size ≤ b) ∧ Jx .ret (k + 1) m' B
  | .exit id, _, B => ∃ m', Mod m A2 B ∧ (∀ b, m' b → m b ∨ A.heap.size ≤ b) ∧ Jx (.exit id) (k + 1) m' B
  | .goto t, _, B => ∃ m', Mod m A2 B ∧ (∀ b, m' b → m b ∨ A.heap.size ≤ b) ∧ Jx (.goto t) (k + 1) m' B
  | .panic _, _, _ => False
  | .outgrown, _, _ => False

/-- The rounds, as the loop's user shows them. -/
def Rounds (P : Program) (n n0 : Nat) (J : Nat → (Nat → Prop) → World → Prop) (Jx : Code → Nat → (Nat → Prop) → World → Prop) (xs : List (Array Value)) (tmps : Array Value) (ps : Array Tmp) (assign body : Code) : Prop :=
  ∀ (l k : Nat) (hk : k < xs.length) (m : Nat → Prop) (A : World), n0 ≤ l → l < A.heap.size → ¬ m l → J k m A →
    assign.wpIn (FW (some l)) n P (Exit.then (fun a1 A1 => Mod Nil0 A A1 ∧ ∀ A2, Mod (· = l) A1 A2 → (∃ r, A2.heap[l]? = some (.loop r)) → J k m A2 →
      body.wpIn (FW (some l)) n P (RPost J Jx k m A A2) a1 A2) (fun _ _ _ => False))
      { tmps := (ps.zip xs[k]).foldl (fun t (p, v) => t.setIfInBounds p v) tmps, defers := [] } A

/-- THE CALL OF THE SEQUENCE FROM A LOOP: the record's block is l; ex: further blocks that nobody turns. -/
theorem callV_range {P : Program} {n : Nat} {v : Value} {D Wr : Nat → Prop} {It : Option Nat → World → Prop} {xs : List (Array Value)} {w w1 : World} (hseq : SeqSpec P v D Wr It xs w)
    {l fn : Nat} {tmps : Array Value} {ps : Array Tmp} {assign body : Code} {dfr : Nat} (ex : List (Nat × Obj))
    (hl : w1.heap[l]? = some (.loop { state := .ready, pending := none, fn, tmps, params := ps, assign, body, defers := dfr })) (hw1 : Mod Nil0 w w1) (hlw : w.heap.size ≤ l)
    (hex : ∀ p ∈ ex, w1.heap[p.1]? = some p.2 ∧ w.heap.size ≤ p.1 ∧ p.1 ≠ l)
    (J : Nat → (Nat → Prop) → World → Prop) (Jx : Code → Nat → (Nat → Prop) → World → Prop) (m0 : Nat → Prop)
    (hps : ∀ x ∈ xs, x.size = ps.size) (hJ : Stab w.heap.size Wr J) (hJx : ∀ c, Stab w.heap.size Wr (Jx c)) (hR : Rng D Wr J) (h0 : J 0 m0 w)
    (hround : Rounds P n w.heap.size J Jx xs tmps ps assign body) :
    CallV P v #[.func (.yield l) #[] #[]] w1 fun e B => (∃ r, e = .returned r) ∧ ∃ (m' : Nat → Prop) (r : Loop), B.heap[l]? = some (.loop r) ∧ r.state ≠ .busy ∧
      (∀ p ∈ ex, B.heap[p.1]? = some p.2 ∧ ¬ m' p.1) ∧ ¬ m' l ∧ (∀ b, m' b → m0 b ∨ w.heap.size ≤ b) ∧ Mod (fun b => m0 b ∨ Wr b) w B ∧
      (match r.pending with
       | none => J xs.length m' B ∧ It none B
       | some c => ∃ k, k < xs.length ∧ Jx c (k + 1) m' B ∧ It (some (k + 1)) B) := by
  obtain ⟨rec, hrec⟩ : ∃ rec : LoopState → Option Code → Loop, rec = fun st pe => { state := st, pending := pe, fn, tmps, params := ps, assign, body, defers := dfr } := ⟨_, rfl⟩
  have hl1 : w1.heap[l]? = some (.loop (rec .ready none)) := by rw [hrec]; exact hl
  have hDl : ∀ b, D b ∨ Wr b → b < w.heap.size := hseq.1
  -- the law's own words
  let ext : (Nat → Prop) → Nat → Prop := fun m b => m b ∨ b = l ∨ ∃ p ∈ ex, p.1 = b
  let off : World → (Nat → Prop) → Prop := fun A m => (∀ p ∈ ex, A.heap[p.1]? = some p.2 ∧ ¬ m p.1) ∧ ¬ m l
  let J' : Nat → (Nat → Prop) → World → Prop := fun k M A => ∃ m, M = ext m ∧ J k m A ∧ A.heap[l]? = some (.loop (rec .ready none)) ∧ off A m
  let Jx' : Nat → (Nat → Prop) → World → Prop := fun k M A => ∃ m c, M = ext m ∧ Jx c k m A ∧ A.heap[l]? = some (.loop (rec .done (some c))) ∧ off A m
  have hsz : w.heap.size ≤ w1.heap.size := hw1.size
  have hm0 : ∀ b, m0 b → b < w.heap.size := fun b hb => (hR 0 m0 w h0 b hb).1
  have hoff : ∀ {A B : World} {m S : Nat → Prop}, off A m → Mod S A B → (∀ p ∈ ex, ¬ S p.1) → off B m := fun ho hm hS =>
    ⟨fun p hp => ⟨hm.heap (ho.1 p hp).1 (hS p hp), (ho.1 p hp).2⟩, ho.2⟩
  have hst : Stab w1.heap.size Wr J' := by
    rintro k M A B S ⟨m, rfl, hj, hll, ho⟩ hm hS hS2
    exact ⟨m, rfl, hJ k m A B S hj hm (fun b hs hb => hS b hs (.inl hb)) (fun b hs hb => hS2 b hs (by omega)), hm.heap hll (fun hs => hS _ hs (.inr (.inl rfl))), hoff ho hm (fun p hp hs => hS _ hs (.inr (.inr ⟨p, hp, rfl⟩)))⟩
  have hstx : Stab w1.heap.size Wr Jx' := by
    rintro k M A B S ⟨m, c, rfl, hj, hll, ho⟩ hm hS hS2
    exact ⟨m, c, rfl, hJx c k m A B S hj hm (fun b hs hb => hS b hs (.inl hb)) (fun b hs hb => hS2 b hs (by omega)), hm.heap hll (fun hs => hS _ hs (.inr (.inl rfl))), hoff ho hm (fun p hp hs => hS _ hs (.inr (.inr ⟨p, hp, rfl⟩)))⟩
  have hrng : Rng D Wr J' := by
    rintro k M A ⟨m, rfl, hj, hll, ho⟩ b (hb | rfl | ⟨p, hp, rfl⟩)
    · exact hR k m A hj b hb
    · exact ⟨(Array.getElem?_eq_some_iff.1 hll).1, fun hd => by have := hDl b (.inl hd); omega, fun hd => by have := hDl b (.inr hd); omega⟩
    · exact ⟨(Array.getElem?_eq_some_iff.1 (ho.1 p hp).1).1, fun hd => by have := hDl _ (.inl hd); have := (hex p hp).2.1; omega, fun hd => by have := hDl _ (.inr hd); have := (hex p hp).2.1; omega⟩
  refine (hseq.2.2 _ _ _ J' Jx' (ext m0) w1 hsz (fun b hb => hw1.block b (hDl b hb) (fun hf => hf)) hst hstx hrng ?_ ⟨m0, rfl, hJ 0 m0 w w1 Nil0 h0 hw1 (fun _ hf => hf.elim) (fun _ hf => hf.elim), hl1, ⟨fun p hp => ⟨(hex p hp).1, fun hm => by have := hm0 _ hm; have := (hex p hp).2.1; omega⟩, fun hm => by have := hm0 _ hm; omega⟩⟩).mono ?_
  · -- a round
    rintro k hk M A ⟨m, rfl, hj, hll, ho⟩ hA
    have hlt : l < A.heap.size := (Array.getElem?_eq_some_iff.1 hll).1
    have hy := run_yield (P := P) (args := xs[k]) hll (by rw [hrec]; exact hps _ (List.getElem_mem hk))
    rw [hrec] at hy
    refine .yield l _ _ _ ⟨fn, _, assign, body, hy, ?_⟩
    refine RoundIn.anyN (n := n) rfl (roundIn_of_wpIn (F := Fence.wide) trivial ?_)
    have hr := hround l k hk m A hlw hlt ho.2 hj
    refine wpIn_mono hr ?_
    rintro e a1 A1 hq
    cases e with
    | normal =>
      obtain ⟨hm1, hbody⟩ := hq
      have hl2 : A1.heap[l]? = some (.loop (rec .ready none)) := hm1.heap hll (fun hf => hf)
      refine ⟨_, run_beginRound hl2 (by rw [hrec]), ?_⟩
      have hlt1 : l < A1.heap.size := (Array.getElem?_eq_some_iff.1 hl2).1
      have hmo : Mod (· = l) A1 (A1.putObj l (.loop { rec .ready none with state := .busy })) := (Mod.refl _ A1).putObj l _ (fun _ => rfl)
      have hl3 : (A1.putObj l (.loop { rec .ready none with state := .busy })).heap[l]? = some (.loop { rec .ready none with state := .busy }) := World.putObj_heap_same hlt1
      have hj2 : J k m (A1.putObj l (.loop { rec .ready none with state := .busy })) :=
        hJ k m A1 _ (· = l) (hJ k m A A1 Nil0 hj hm1 (fun _ hf => hf.elim) (fun _ hf => hf.elim)) hmo (fun b hb hm => by subst hb; exact ho.2 hm) (fun b hb hlt => by subst hb; omega)
      refine wpIn_mono (hbody _ hmo ⟨_, hl3⟩ hj2) ?_
      generalize hA2 : A1.putObj l (.loop { rec .ready none with state := .busy }) = A2 at hmo hl3 hj2 ⊢
      have ho2 : off A2 m := hoff (hoff ho hm1 (fun p hp hf => hf)) hmo (fun p hp e => (hex p hp).2.2 e)
      have hA12 : A1.heap.size ≤ A2.heap.size := hmo.size
      -- the round's end, whatever the jump
      have key : ∀ (jump : Option Code) (B : World) (m' : Nat → Prop), Mod m A2 B → (∀ b, m' b → m b ∨ A.heap.size ≤ b) →
          (∃ v, (Instr.endRound l jump).run P B = .ok v (B.putObj l (.loop (rec (if jump.isNone then .ready else .done) jump))) ∧ v = .bool jump.isNone) ∧
          Mod (ext m) A (B.putObj l (.loop (rec (if jump.isNone then .ready else .done) jump))) ∧
          Mod (· = l) B (B.putObj l (.loop (rec (if jump.isNone then .ready else .done) jump))) ∧
          (B.putObj l (.loop (rec (if jump.isNone then .ready else .done) jump))).heap[l]? = some (.loop (rec (if jump.isNone then .ready else .done) jump)) ∧
          off (B.putObj l (.loop (rec (if jump.isNone then .ready else .done) jump))) m' ∧ (∀ b, ext m' b → ext m b ∨ A.heap.size ≤ b) := by
        intro jump B m' hB hm'
        have hlB : B.heap[l]? = some (.loop { rec .ready none with state := .busy }) := hB.heap hl3 ho.2
        have hend := run_endRound (P := P) jump hlB
        rw [hrec] at hend ⊢
        rw [hrec] at hlB
        have hmB : Mod (· = l) B (B.putObj l (.loop { state := if jump.isNone then .ready else .done, pending := jump, fn, tmps, params := ps, assign, body, defers := dfr })) := (Mod.refl _ B).putObj l _ (fun _ => rfl)
        refine ⟨⟨_, hend, rfl⟩, ?_, hmB, World.putObj_heap_same (Array.getElem?_eq_some_iff.1 hlB).1, ?_, ?_⟩
        · refine (((hm1.mono (T := ext m) (fun _ _ hf => hf.elim)).trans' hmo (fun b hb e => .inr (.inl e))).trans' hB (fun b hb e => .inl e)).trans' hmB (fun b hb e => .inr (.inl e))
        · refine ⟨fun p hp => ⟨hmB.heap (hB.heap (ho2.1 p hp).1 (ho2.1 p hp).2) (fun e => (hex p hp).2.2 e), fun h => ?_⟩, fun h => ?_⟩
          · rcases hm' _ h with h | h
            · exact (ho.1 p hp).2 h
            · have := (Array.getElem?_eq_some_iff.1 (ho.1 p hp).1).1
              omega
          · rcases hm' _ h with h | h
            · exact ho.2 h
            · omega
        · rintro b (h | h | h)
          · rcases hm' _ h with h | h
            · exact .inl (.inl h)
            · exact .inr h
          · exact .inl (.inr (.inl h))
          · exact .inl (.inr (.inr h))
      rintro e a3 B hp
      have fin : ∀ (c : Code) (m' : Nat → Prop), Mod m A2 B → (∀ b, m' b → m b ∨ A.heap.size ≤ b) → Jx c (k + 1) m' B →
          ∃ v w', (Instr.endRound l (some c)).run P B = .ok v w' ∧ YPost J' Jx' k (ext m) A (.returned v) w' := by
        intro c m' hB hm' hx
        obtain ⟨⟨v, hv, rfl⟩, h1, h2, h3, h4, h5⟩ := key (some c) B m' hB hm'
        exact ⟨_, _, hv, ext m', h1, h5, .inr ⟨rfl, m', c, rfl, hJx c _ _ _ _ _ hx h2 (fun b hb hm => by subst hb; exact h4.2 hm) (fun b hb hlt => by subst hb; omega), h3, h4⟩⟩
      cases e with
      | normal =>
        obtain ⟨m', hB, hm', hx⟩ := hp
        obtain ⟨⟨v, hv, rfl⟩, h1, h2, h3, h4, h5⟩ := key none B m' hB hm'
        exact ⟨_, _, hv, ext m', h1, h5, .inl ⟨rfl, m', rfl, hJ _ _ _ _ _ hx h2 (fun b hb hm => by subst hb; exact h4.2 hm) (fun b hb hlt => by subst hb; omega), h3, h4⟩⟩
      | ret => obtain ⟨m', hB, hm', hx⟩ := hp; exact fin .ret m' hB hm' hx
      | exit id => obtain ⟨m', hB, hm', hx⟩ := hp; exact fin (.exit id) m' hB hm' hx
      | goto t => obtain ⟨m', hB, hm', hx⟩ := hp; exact fin (.goto t) m' hB hm' hx
      | panic ch => exact hp.elim
      | outgrown => exact hp.elim
    | _ => exact hq.elim
  · rintro e B ⟨hv, M, hM, hmod, hend⟩
    have hmod' : ∀ {m : Nat → Prop}, M = ext m → (∀ b, m b → m0 b ∨ w.heap.size ≤ b) ∧ Mod (fun b => m0 b ∨ Wr b) w B := by
      rintro m rfl
      refine ⟨fun b hb => ?_, ?_⟩
      · rcases hM b (.inl hb) with (h | rfl | ⟨p, hp, rfl⟩) | h
        · exact .inl h
        · exact .inr hlw
        · exact .inr (hex p hp).2.1
        · exact .inr (by omega)
      · refine (hw1.mono (fun _ _ hf => hf.elim)).trans' hmod (fun b hb h => ?_)
        rcases h with (h | rfl | ⟨p, hp, rfl⟩) | h
        · exact .inl h
        · omega
        · have := (hex p hp).2.1; omega
        · exact .inr h
    rcases hend with ⟨⟨m, rfl, hj, hll, ho⟩, hit⟩ | ⟨k, hk, ⟨m, c, rfl, hj, hll, ho⟩, hit⟩
    · obtain ⟨h1, h2⟩ := hmod' rfl
      rw [hrec] at hll
      exact ⟨hv, m, _, hll, by simp, ho.1, ho.2, h1, h2, hj, hit⟩
    · obtain ⟨h1, h2⟩ := hmod' rfl
      rw [hrec] at hll
      exact ⟨hv, m, _, hll, by simp, ho.1, ho.2, h1, h2, k, hk, hj, hit⟩
end Go.Proofs.Ytobioeehfigmcaa
