/- Base words of this seat's proofs: what a step may modify, calls of function values, and the rule for a range over a function value that has a sequence's contract. No condition. -/
import Derived.RangeFuncNested
import Derived.RangeFuncBound
import Derived.RangeFuncCalls
import Derived.RangeFuncLeaves
import Derived.Shelf.Abstract
import Derived.WalkKit
import Derived.OwnWalkIn
import Derived.TacticsInMore
import Derived.LoopNIn
import Derived.LoopIn
import Derived.Lib.Hide
import Derived.Deep.Draws
set_option linter.unusedSimpArgs false
set_option linter.unusedVariables false
namespace Go.Proofs.Ytobioeehfigmcaa
open Go Go.RowKit

/-- The wide fence, in a frame of the given make. -/
abbrev FW (ro : Option Nat) : Fence := { fn := fun _ => True, depth := none, alive := false, round := ro }
theorem FW_wide : FW none = Fence.wide := rfl
theorem FW_in (l : Nat) : FW (some l) = Fence.wide.inRound l := rfl

/-- B is A behind steps that modify old blocks of S alone; new blocks may have been laid. -/
structure Mod (S : Nat → Prop) (A B : World) : Prop where
  os : B.os = A.os
  tape : B.tape = A.tape
  output : B.output = A.output
  size : A.heap.size ≤ B.heap.size
  block : ∀ k, k < A.heap.size → ¬ S k → B.heap[k]? = A.heap[k]?

abbrev Nil0 : Nat → Prop := fun _ => False
theorem Mod.refl (S : Nat → Prop) (A : World) : Mod S A A := ⟨rfl, rfl, rfl, Nat.le_refl _, fun _ _ _ => rfl⟩
theorem Mod.trans {S : Nat → Prop} {A B C : World} (h : Mod S A B) (k : Mod S B C) : Mod S A C :=
  ⟨k.os.trans h.os, k.tape.trans h.tape, k.output.trans h.output, Nat.le_trans h.size k.size, fun i hi hs => (k.block i (Nat.lt_of_lt_of_le hi h.size) hs).trans (h.block i hi hs)⟩
/-- What came later may have touched what is new. -/
theorem Mod.trans' {S T : Nat → Prop} {A B C : World} (h : Mod S A B) (k : Mod T B C) (hT : ∀ b, b < A.heap.size → T b → S b) : Mod S A C :=
  ⟨k.os.trans h.os, k.tape.trans h.tape, k.output.trans h.output, Nat.le_trans h.size k.size, fun i hi hs => (k.block i (Nat.lt_of_lt_of_le hi h.size) (fun ht => hs (hT i hi ht))).trans (h.block i hi hs)⟩
theorem Mod.mono {S T : Nat → Prop} {A B : World} (h : Mod S A B) (hT : ∀ b, b < A.heap.size → S b → T b) : Mod T A B :=
  ⟨h.os, h.tape, h.output, h.size, fun i hi hs => h.block i hi (fun hS => hs (hT i hi hS))⟩
theorem Mod.alloc {S : Nat → Prop} {A B : World} (h : Mod S A B) (o : Obj) : Mod S A (B.alloc o) :=
  h.trans' (T := Nil0) ⟨rfl, rfl, rfl, by simp, fun k hk _ => Below.heap_alloc _ _ _ hk⟩ (fun _ _ hf => hf.elim)
theorem Mod.drew {S : Nat → Prop} {A B : World} (h : Mod S A B) : Mod S A B.drew := ⟨h.os, h.tape, h.output, h.size, h.block⟩
theorem Mod.drewN {S : Nat → Prop} {A B : World} (h : Mod S A B) (n : Nat) : Mod S A (B.drewN n) := ⟨h.os, h.tape, h.output, h.size, h.block⟩
theorem Mod.setCell {S : Nat → Prop} {A B : World} (h : Mod S A B) (p : Addr) (v : Value) (hp : p.block < A.heap.size → S p.block) : Mod S A (B.setCell p v) :=
  h.trans' (T := (· = p.block)) ⟨rfl, rfl, rfl, by simp [World.setCell], fun k _ hne => Below.heap_setCell _ _ _ _ hne⟩ (fun b hb e => by subst e; exact hp hb)
theorem Mod.putObj {S : Nat → Prop} {A B : World} (h : Mod S A B) (r : Nat) (o : Obj) (hp : r < A.heap.size → S r) : Mod S A (B.putObj r o) :=
  h.trans' (T := (· = r)) ⟨rfl, rfl, rfl, by simp, fun k _ hne => World.putObj_heap_other hne⟩ (fun b hb e => by subst e; exact hp hb)
theorem Mod.grown {S : Nat → Prop} {A B C : World} {row : Option Nat} (h : Mod S A B) (hg : B.grownBy C row) (hr : ∀ k, row = some k → k < A.heap.size → S k) : Mod S A C :=
  h.trans' (T := fun b => row = some b) ⟨hg.os, hg.tape, hg.output, hg.size, fun k hk hne => hg.block k hk (fun e => hne e.symm)⟩ (fun b hb e => hr b e hb)
theorem Mod.below {A B : World} (h : Mod Nil0 A B) : Below A.heap.size A B := ⟨h.os, h.tape, h.output, h.size, fun k hk => h.block k hk (fun hf => hf)⟩
theorem Mod.of_below {A B : World} (h : Below A.heap.size A B) : Mod Nil0 A B := ⟨h.os, h.tape, h.output, h.size, fun k hk _ => h.block k hk⟩
theorem Mod.below' {S : Nat → Prop} {n : Nat} {A B : World} (h : Mod S A B) (hn : n ≤ A.heap.size) (hS : ∀ b, b < n → ¬ S b) : Below n A B := ⟨h.os, h.tape, h.output, h.size, fun k hk => h.block k (Nat.lt_of_lt_of_le hk hn) (hS k hk)⟩
theorem Mod.heap {S : Nat → Prop} {A B : World} (h : Mod S A B) {b : Nat} {o : Obj} (ho : A.heap[b]? = some o) (hs : ¬ S b) : B.heap[b]? = some o := (h.block b (Array.getElem?_eq_some_iff.1 ho).1 hs).trans ho
theorem Mod.cell {S : Nat → Prop} {A B : World} (h : Mod S A B) {a : Addr} {v : Value} (hv : A.cell? a = some v) (hs : ¬ S a.block) : B.cell? a = some v :=
  (World.cell?_of_block (h.block a.block (World.block_lt_of_cell? A a hv) hs)).trans hv

theorem cell_of_one' {w : World} {b : Nat} {v : Value} {t : TypeId} (h : w.heap[b]? = some (.cells #[v] t (0, 0))) : w.cell? ⟨b, 0, none⟩ = some v := by simp [World.cell?, h]
theorem free_of_one' {w : World} {b : Nat} {v : Value} {t : TypeId} (h : w.heap[b]? = some (.cells #[v] t (0, 0))) : w.frozen? ⟨b, 0, none⟩ = false := by simp [World.frozen?, h]
/-- The function has a body: a call of it enters it. -/
def Enters (P : Program) (f : Nat) : Prop := ∀ args w, (callFunc f args).run P w = .ok (.enter f args) w

/-- A CALL OF A FUNCTION VALUE: a plain function or a closure; or the body of a loop over a function. -/
inductive CallV (P : Program) : Value → Array Value → World → (Ending → World → Prop) → Prop
  | fn (f : Nat) (cap args : Array Value) (w : World) (R : Ending → World → Prop) (he : Enters P f) (h : Calls P f (args ++ cap) w R) : CallV P (.func (.func f) #[] cap) args w R
  | yield (l : Nat) (args : Array Value) (w : World) (R : Ending → World → Prop) (h : YieldAt Fence.wide 0 P l args w R) : CallV P (.func (.yield l) #[] #[]) args w R

theorem RoundIn.anyN {F : Fence} (hd : F.depth = none) {n n' : Nat} {P : Program} {l : Nat} {f : FuncId} {tmps : Array Value} {assign body : Code} {w : World} {R : Ending → World → Prop}
    (h : RoundIn F n P l f tmps assign body w R) : RoundIn F n' P l f tmps assign body w R :=
  ⟨h.1, fun c cs _ => h.2 c cs (fun d e => by rw [hd] at e; cases e)⟩
theorem CallsIn.anyN {F : Fence} (hd : F.depth = none) {n n' : Nat} {P : Program} {f : FuncId} {args : Array Value} {w : World} {R : Ending → World → Prop}
    (h : CallsIn F n P f args w R) : CallsIn F n' P f args w R :=
  ⟨h.1, fun cs _ => h.2 cs (fun d e => by rw [hd] at e; cases e)⟩
theorem calls_FW {ro : Option Nat} {n : Nat} {P : Program} {f : FuncId} {args : Array Value} {w : World} {R : Ending → World → Prop} (h : Calls P f args w R) : CallsIn (FW ro) n P f args w R :=
  (callsIn_wide (n := n)).2 h
theorem calls_of_FW {ro : Option Nat} {n : Nat} {P : Program} {f : FuncId} {args : Array Value} {w : World} {R : Ending → World → Prop} (h : CallsIn (FW ro) n P f args w R) : Calls P f args w R :=
  (callsIn_wide (n := n)).1 h

theorem CallV.mono {P : Program} {v : Value} {args : Array Value} {w : World} {R R' : Ending → World → Prop} (h : CallV P v args w R) (hr : ∀ e w', R e w' → R' e w') : CallV P v args w R' := by
  cases h with
  | fn f cap _ _ _ he h => exact .fn f cap args w R' he (h.mono hr)
  | yield l _ _ _ h =>
    obtain ⟨fn, tmps, assign, body, hy, hR⟩ := h
    exact .yield l args w R' ⟨fn, tmps, assign, body, hy, hR.mono hr⟩

/-- WHAT FOLLOWS A CALL IN A LIST OF OPERATIONS. -/
def afterCall (P : Program) (ro : Option Nat) (n : Nat) (ops : Array Oper) (Q : Exit → Act → World → Prop) (rest : List Oper) (dst : Option Tmp) (a : Act) : Ending → World → Prop
  | .returned v, w' => wpListIn (FW ro) n P ops Q rest (a.put dst v) w'
  | .panicked chain, w' => Q (.panic chain) a w'
  | .outgrown, _ => LetsOut Q

/-- **A CALL OF A FUNCTION VALUE IN A LIST OF OPERATIONS.** -/
theorem wpListIn_callV {P : Program} {ro : Option Nat} {n : Nat} {ops : Array Oper} {Q : Exit → Act → World → Prop} {rest : List Oper} {a : Act} {w : World}
    {dst : Option Tmp} {f : Operand} {ars : Array Operand} {ats : Array TypeId} {ty : TypeId} {pos : String} {after : Array Edge} {gd : Option (Nat × Bool)}
    {v : Value} {argl : List Value} (hv : a.eval f = v) (ha : ars.toList.map a.eval = argl)
    (hgd : Region.wanted { dst := dst, op := .call { callee := .value f, args := ars, argTypes := ats }, type := ty, pos := pos, after := after, guard := gd } (yielded ops a.tmps) = true)
    (h : CallV P v argl.toArray w (afterCall P ro n ops Q rest dst a)) :
    wpListIn (FW ro) n P ops Q ({ dst := dst, op := .call { callee := .value f, args := ars, argTypes := ats }, type := ty, pos := pos, after := after, guard := gd } :: rest) a w := by
  subst hv ha
  rw [show (ars.toList.map a.eval).toArray = ars.map a.eval from Array.ext' (by rw [Array.toList_map])] at h
  simp only [wpListIn, hgd, if_true, Oper.wpIn]
  generalize hve : a.eval f = v at h
  refine ⟨fun _ _ => trivial, ?_⟩
  have hsem : Oper.semAt (FW ro).round a.eval { dst := dst, op := .call { callee := .value f, args := ars, argTypes := ats }, type := ty, pos := pos, after := after, guard := gd } =
      execOp a.eval { dst := dst, op := .call { callee := .value f, args := ars, argTypes := ats }, type := ty, pos := pos, after := after, guard := gd } :=
    Oper.semAt_eq _ _ _ (by intro c hc; cases hc)
  rw [hsem]
  cases h with
  | fn g cap _ _ _ he h =>
    have hrun : (execOp a.eval { dst := dst, op := .call { callee := .value f, args := ars, argTypes := ats }, type := ty, pos := pos, after := after, guard := gd }).run P w = .ok (.enter g (ars.map a.eval ++ cap)) w := by
      have := he (ars.map a.eval ++ cap) w
      simp [execOp, resolve, Deferred.ofValue, hve, invoke, Sem.run_bind, Sem.run_pure, Result.andThen, this]
    rw [hrun]
    refine ⟨fun hd => by simp at hd, (callsIn_wide (n := n - 1)).2 h⟩
  | yield l _ _ _ h =>
    obtain ⟨fn, tmps, assign, body, hy, hR⟩ := h
    have hrun : (execOp a.eval { dst := dst, op := .call { callee := .value f, args := ars, argTypes := ats }, type := ty, pos := pos, after := after, guard := gd }).run P w = .ok (.round l fn tmps assign body) w := by
      simp [execOp, resolve, Deferred.ofValue, hve, invoke, Sem.run_bind, Sem.run_pure, Result.andThen, hy]
    rw [hrun]
    refine ⟨fun hd => by simp at hd, RoundIn.anyN rfl hR⟩

end Go.Proofs.Ytobioeehfigmcaa
