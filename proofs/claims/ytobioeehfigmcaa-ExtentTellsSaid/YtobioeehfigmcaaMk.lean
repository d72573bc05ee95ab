/- The makers of sequences over numbers: First, Until, Keep, Map, Runs, Of; Collect and List. No condition but the slices' bounds. -/
import Derived.Test.YtobioeehfigmcaaRn2
set_option linter.unusedSimpArgs false
set_option linter.unusedVariables false
set_option maxRecDepth 100000
namespace Go.Proofs.Ytobioeehfigmcaa
open Go Go.RowKit Go.Shelf
attribute [local go_sem] Oper.semAt_some eqNil_seq_int eqNil_is_int

theorem SeqSpec.monoD {P : Program} {v : Value} {D D' Wr : Nat → Prop} {It : Option Nat → World → Prop} {xs : List (Array Value)} {w : World} (h : SeqSpec P v D Wr It xs w)
    (hD : ∀ b, D b → D' b) (hlt : ∀ b, D' b → b < w.heap.size) : SeqSpec P v D' Wr It xs w :=
  ⟨fun b hb => hb.elim (hlt b) (fun h' => h.1 b (.inr h')), h.2.1, fun yf ya yc J Jx m W hW hD2 hJ hJx hR hY h0 => h.2.2 yf ya yc J Jx m W hW (fun b hb => hD2 b (hb.imp (hD b) id)) hJ hJx
    (fun k m A hj b hb => ⟨(hR k m A hj b hb).1, fun h => (hR k m A hj b hb).2.1 (hD _ h), (hR k m A hj b hb).2.2⟩) hY h0⟩
theorem SeqRel.monoD {P : Program} {v : Value} {D D' Wr : Nat → Prop} {It : Option Nat → World → Prop} {N : Nat} {E : Nat → Array Value → (Nat → Prop) → World → Prop} {w : World} (h : SeqRel P v D Wr It N E w)
    (hD : ∀ b, D b → D' b) (hlt : ∀ b, D' b → b < w.heap.size) : SeqRel P v D' Wr It N E w :=
  ⟨fun b hb => hb.elim (hlt b) (fun h' => h.1 b (.inr h')), h.2.1, fun yf ya yc J Jx m W hW hD2 hJ hJx hR hY h0 => h.2.2 yf ya yc J Jx m W hW (fun b hb => hD2 b (hb.imp (hD b) id)) hJ hJx
    (fun k m A hj b hb => ⟨(hR k m A hj b hb).1, fun h => (hR k m A hj b hb).2.1 (hD _ h), (hR k m A hj b hb).2.2⟩) hY h0⟩
/-- A sequence comes back; beside D it reads new memory alone. -/
def SeqOut (P : Program) (D Wr : Nat → Prop) (It : Option Nat → World → Prop) (xs : List (Array Value)) (w : World) (e : Ending) (B : World) : Prop :=
  ∃ f cap, e = .returned (.func (.func f) #[] cap) ∧ Mod Nil0 w B ∧ SeqSpec P (.func (.func f) #[] cap) (fun b => D b ∨ (w.heap.size ≤ b ∧ b < B.heap.size)) Wr It xs B
def RelOut (P : Program) (D Wr : Nat → Prop) (It : Option Nat → World → Prop) (N : Nat) (E : Nat → Array Value → (Nat → Prop) → World → Prop) (w : World) (e : Ending) (B : World) : Prop :=
  ∃ f cap, e = .returned (.func (.func f) #[] cap) ∧ Mod Nil0 w B ∧ SeqRel P (.func (.func f) #[] cap) (fun b => D b ∨ (w.heap.size ≤ b ∧ b < B.heap.size)) Wr It N E B

theorem two_cells (w : World) (u v : Value) (s t : TypeId) : ((w.alloc (.cells #[u] s)).alloc (.cells #[v] t)).cell? ⟨w.heap.size, 0, none⟩ = some u ∧ ((w.alloc (.cells #[u] s)).alloc (.cells #[v] t)).cell? ⟨w.heap.size + 1, 0, none⟩ = some v := by
  constructor
  · exact cell_of_one' ((Below.heap_alloc _ _ _ (by simp)).trans (World.alloc_heap_new w _))
  · have := World.alloc_heap_new (w.alloc (.cells #[u] s)) (.cells #[v] t)
    rw [World.size_alloc] at this
    exact cell_of_one' this
theorem two_mod (w : World) (a b : Obj) : Mod Nil0 w ((w.alloc a).alloc b) := ((Mod.refl _ _).alloc _).alloc _
theorem two_size (w : World) (a b : Obj) : ((w.alloc a).alloc b).heap.size = w.heap.size + 2 := by simp

theorem mkFirst_int (f : Nat) (cap : Array Value) (n : Int) (w : World) : Calls Try.prog 10 #[.func (.func f) #[] cap, .int .i64 n] w fun e B =>
    e = .returned (.func (.func 59) #[] #[.pointer (some ⟨w.heap.size + 1, 0, none⟩), .pointer (some ⟨w.heap.size, 0, none⟩)]) ∧ B = (w.alloc (.cells #[.func (.func f) #[] cap] 28)).alloc (.cells #[.int .i64 n] 3) := by
  go_enter Try.func10, Try.ntmps10
  go_wp2
  go_ret
  exact ⟨rfl, rfl⟩
theorem mkRuns_int (f : Nat) (cap : Array Value) (n : Int) (w : World) : Calls Try.prog 18 #[.func (.func f) #[] cap, .int .i64 n] w fun e B =>
    e = .returned (.func (.func 65) #[] #[.pointer (some ⟨w.heap.size + 1, 0, none⟩), .pointer (some ⟨w.heap.size, 0, none⟩)]) ∧ B = (w.alloc (.cells #[.func (.func f) #[] cap] 28)).alloc (.cells #[.int .i64 n] 3) := by
  go_enter Try.func18, Try.ntmps18
  go_wp2
  go_ret
  exact ⟨rfl, rfl⟩
theorem mkUntil_int (f fi : Nat) (cap capi : Array Value) (w : World) : Calls Try.prog 14 #[.func (.func f) #[] cap, .func (.func fi) #[] capi] w fun e B =>
    e = .returned (.func (.func 61) #[] #[.pointer (some ⟨w.heap.size, 0, none⟩), .pointer (some ⟨w.heap.size + 1, 0, none⟩)]) ∧ B = (w.alloc (.cells #[.func (.func f) #[] cap] 28)).alloc (.cells #[.func (.func fi) #[] capi] 25) := by
  go_enter Try.func14, Try.ntmps14
  go_wp2
  go_ret
  exact ⟨rfl, rfl⟩
theorem mkMap_int (f fi : Nat) (cap capi : Array Value) (w : World) : Calls Try.prog 21 #[.func (.func f) #[] cap, .func (.func fi) #[] capi] w fun e B =>
    e = .returned (.func (.func 68) #[] #[.pointer (some ⟨w.heap.size + 1, 0, none⟩), .pointer (some ⟨w.heap.size, 0, none⟩)]) ∧ B = (w.alloc (.cells #[.func (.func f) #[] cap] 28)).alloc (.cells #[.func (.func fi) #[] capi] 47) := by
  go_enter Try.func21, Try.ntmps21
  go_wp2
  go_ret
  exact ⟨rfl, rfl⟩

theorem ofS_int (A : Option Addr) (c : Nat) (D : Nat → Prop) (xs : List Int) (w : World) (hr : Row1 (Value.int .i64) D w A xs) (hbig : xs.length * 8 ≤ 140737488355328) :
    Calls Try.prog 19 #[.slice A xs.length c] w (SeqOut Try.prog Nil0 Nil0 (fun _ _ => True) (xs.map fun x => #[.int .i64 x]) w) := by
  refine (of_int A c D xs w hr hbig).mono ?_
  rintro e B ⟨f, cap, D', rfl, hm, hD, hs⟩
  exact ⟨f, cap, rfl, hm, hs.monoD (fun b hb => .inr ⟨hD b hb, hs.1 b (.inl hb)⟩) (fun b hb => hb.elim (fun h => h.elim) (fun h => h.2))⟩
theorem firstS_int (f : Nat) (n : Int) (cap : Array Value) (D Wr : Nat → Prop) (It : Option Nat → World → Prop) (xs : List Int) (w : World) (hDW : ∀ b, D b → ¬ Wr b)
    (hseq : SeqSpec Try.prog (.func (.func f) #[] cap) D Wr It (xs.map fun x => #[.int .i64 x]) w) (hI0 : It (some 0) w) (hn1 : -9223372036854775808 ≤ n) (hn2 : n ≤ 9223372036854775807) :
    Calls Try.prog 10 #[.func (.func f) #[] cap, .int .i64 n] w (SeqOut Try.prog D Wr (FIt n xs It) ((xs.take n.toNat).map fun x => #[.int .i64 x]) w) := by
  refine (mkFirst_int f cap n w).mono ?_
  rintro e B ⟨rfl, rfl⟩
  obtain ⟨hc1, hc2⟩ := two_cells w (.func (.func f) #[] cap) (.int .i64 n) 28 3
  have hm := two_mod w (.cells #[.func (.func f) #[] cap] 28) (.cells #[.int .i64 n] 3)
  have hz := two_size w (.cells #[.func (.func f) #[] cap] 28) (.cells #[.int .i64 n] 3)
  have hs := hseq.mod hm (fun _ _ hf => hf)
  have hW := fun b (h : Wr b) => hseq.1 b (.inr h)
  refine ⟨_, _, rfl, hm, (first1_int _ _ f n cap D Wr It xs _ hc2 hc1 (fun h => by have := hW _ h; omega) (fun h => by have := hW _ h; omega) hDW hs (hseq.2.1 _ _ _ hI0 (fun b h => hm.block b (hW b h) (fun hf => hf))) hn1 hn2).monoD ?_ ?_⟩
  · rintro b (rfl | rfl | h)
    · exact .inr (by omega)
    · exact .inr (by omega)
    · exact .inl h
  · rintro b (h | h)
    · have := hseq.1 b (.inl h); omega
    · exact h.2
theorem runsS_int (f : Nat) (n : Int) (cap : Array Value) (D Wr : Nat → Prop) (It : Option Nat → World → Prop) (xs : List Int) (w : World)
    (hseq : SeqSpec Try.prog (.func (.func f) #[] cap) D Wr It (xs.map fun x => #[.int .i64 x]) w) (hbig : xs.length * 8 ≤ 140737488355328) (hn2 : n ≤ 9223372036854775807) :
    Calls Try.prog 18 #[.func (.func f) #[] cap, .int .i64 n] w (RelOut Try.prog D Wr (fun _ _ => True) (runsOf n xs).length (ERuns (runsOf n xs)) w) := by
  refine (mkRuns_int f cap n w).mono ?_
  rintro e B ⟨rfl, rfl⟩
  obtain ⟨hc1, hc2⟩ := two_cells w (.func (.func f) #[] cap) (.int .i64 n) 28 3
  have hm := two_mod w (.cells #[.func (.func f) #[] cap] 28) (.cells #[.int .i64 n] 3)
  have hz := two_size w (.cells #[.func (.func f) #[] cap] 28) (.cells #[.int .i64 n] 3)
  have hs := hseq.mod hm (fun _ _ hf => hf)
  have hW := fun b (h : Wr b) => hseq.1 b (.inr h)
  refine ⟨_, _, rfl, hm, (runs1_int _ _ f n cap D Wr It xs _ hc2 hc1 (fun h => by have := hW _ h; omega) (fun h => by have := hW _ h; omega) hs hbig hn2).monoD ?_ ?_⟩
  · rintro b (rfl | rfl | h)
    · exact .inr (by omega)
    · exact .inr (by omega)
    · exact .inl h
  · rintro b (h | h)
    · have := hseq.1 b (.inl h); omega
    · exact h.2
theorem keepS_int (f fi : Nat) (cap capi : Array Value) (D Wr Di : Nat → Prop) (It : Option Nat → World → Prop) (xs : List Int) (p : Int → Bool) (w : World)
    (hseq : SeqSpec Try.prog (.func (.func f) #[] cap) D Wr It (xs.map fun x => #[.int .i64 x]) w) (hfun : PredV Try.prog (.func (.func fi) #[] capi) Di (Value.int .i64) p (· ∈ xs) w) (hDi : ∀ b, Di b → ¬ Wr b) (hDW : ∀ b, D b → ¬ Wr b) :
    Calls Try.prog 24 #[.func (.func f) #[] cap, .func (.func fi) #[] capi] w (SeqOut Try.prog (fun b => D b ∨ Di b) Wr (KIt p xs It) ((xs.filter p).map fun x => #[.int .i64 x]) w) := by
  refine (keep_int _ _ w rfl rfl rfl rfl).mono ?_
  rintro e B ⟨rfl, rfl⟩
  obtain ⟨hc1, hc2⟩ := two_cells w (.func (.func f) #[] cap) (.func (.func fi) #[] capi) 28 25
  have hm := two_mod w (.cells #[.func (.func f) #[] cap] 28) (.cells #[.func (.func fi) #[] capi] 25)
  have hz := two_size w (.cells #[.func (.func f) #[] cap] 28) (.cells #[.func (.func fi) #[] capi] 25)
  have hs := hseq.mod hm (fun _ _ hf => hf)
  have hW := fun b (h : Wr b) => hseq.1 b (.inr h)
  refine ⟨_, _, rfl, hm, (keep1_int _ _ f fi cap capi D Wr Di It xs p _ hc1 hc2 (fun h => by have := hW _ h; omega) (fun h => by have := hW _ h; omega) hs (hfun.later hm.size (fun b hb => hm.block b (hfun.1 b hb) (fun hf => hf))) hDi hDW).monoD ?_ ?_⟩
  · rintro b (rfl | rfl | h | h)
    · exact .inr (by omega)
    · exact .inr (by omega)
    · exact .inl (.inl h)
    · exact .inl (.inr h)
  · rintro b ((h | h) | h)
    · have := hseq.1 b (.inl h); omega
    · have := hfun.1 b h; omega
    · exact h.2
theorem untilS_int (f fi : Nat) (cap capi : Array Value) (D Wr Di : Nat → Prop) (It : Option Nat → World → Prop) (xs : List Int) (p : Int → Bool) (w : World)
    (hseq : SeqSpec Try.prog (.func (.func f) #[] cap) D Wr It (xs.map fun x => #[.int .i64 x]) w) (hfun : PredV Try.prog (.func (.func fi) #[] capi) Di (Value.int .i64) p (· ∈ xs) w) (hDi : ∀ b, Di b → ¬ Wr b) (hDW : ∀ b, D b → ¬ Wr b) :
    Calls Try.prog 14 #[.func (.func f) #[] cap, .func (.func fi) #[] capi] w (SeqOut Try.prog (fun b => D b ∨ Di b) Wr (UIt p xs It) ((xs.takeWhile fun x => !p x).map fun x => #[.int .i64 x]) w) := by
  refine (mkUntil_int _ _ _ _ w).mono ?_
  rintro e B ⟨rfl, rfl⟩
  obtain ⟨hc1, hc2⟩ := two_cells w (.func (.func f) #[] cap) (.func (.func fi) #[] capi) 28 25
  have hm := two_mod w (.cells #[.func (.func f) #[] cap] 28) (.cells #[.func (.func fi) #[] capi] 25)
  have hz := two_size w (.cells #[.func (.func f) #[] cap] 28) (.cells #[.func (.func fi) #[] capi] 25)
  have hs := hseq.mod hm (fun _ _ hf => hf)
  have hW := fun b (h : Wr b) => hseq.1 b (.inr h)
  refine ⟨_, _, rfl, hm, (until1_int _ _ f fi cap capi D Wr Di It xs p _ hc1 hc2 (fun h => by have := hW _ h; omega) (fun h => by have := hW _ h; omega) hs (hfun.later hm.size (fun b hb => hm.block b (hfun.1 b hb) (fun hf => hf))) hDi hDW).monoD ?_ ?_⟩
  · rintro b (rfl | rfl | h | h)
    · exact .inr (by omega)
    · exact .inr (by omega)
    · exact .inl (.inl h)
    · exact .inl (.inr h)
  · rintro b ((h | h) | h)
    · have := hseq.1 b (.inl h); omega
    · have := hfun.1 b h; omega
    · exact h.2
theorem FunG.later {α : Type} {P : Program} {fv : Value} {D : Nat → Prop} {enc res : α → Value} {dom : α → Prop} {w w' : World} (h : FunG P fv D enc res dom w)
    (hs : w.heap.size ≤ w'.heap.size) (hd : ∀ b, D b → w'.heap[b]? = w.heap[b]?) : FunG P fv D enc res dom w' :=
  ⟨fun b hb => Nat.lt_of_lt_of_le (h.1 b hb) hs, fun W x hW hD ha => h.2 W x (Nat.le_trans hs hW) (fun b hb => (hD b hb).trans (hd b hb)) ha⟩
theorem mapS_int (f fi : Nat) (cap capi : Array Value) (D Wr Di : Nat → Prop) (It : Option Nat → World → Prop) (xs : List Int) (res : Int → Value) (w : World)
    (hseq : SeqSpec Try.prog (.func (.func f) #[] cap) D Wr It (xs.map fun x => #[.int .i64 x]) w) (hfun : FunG Try.prog (.func (.func fi) #[] capi) Di (Value.int .i64) res (· ∈ xs) w) (hDi : ∀ b, Di b → ¬ Wr b) (hDW : ∀ b, D b → ¬ Wr b) :
    Calls Try.prog 21 #[.func (.func f) #[] cap, .func (.func fi) #[] capi] w (SeqOut Try.prog (fun b => D b ∨ Di b) Wr It (xs.map fun x => #[res x]) w) := by
  refine (mkMap_int _ _ _ _ w).mono ?_
  rintro e B ⟨rfl, rfl⟩
  obtain ⟨hc1, hc2⟩ := two_cells w (.func (.func f) #[] cap) (.func (.func fi) #[] capi) 28 47
  have hm := two_mod w (.cells #[.func (.func f) #[] cap] 28) (.cells #[.func (.func fi) #[] capi] 47)
  have hz := two_size w (.cells #[.func (.func f) #[] cap] 28) (.cells #[.func (.func fi) #[] capi] 47)
  have hs := hseq.mod hm (fun _ _ hf => hf)
  have hW := fun b (h : Wr b) => hseq.1 b (.inr h)
  refine ⟨_, _, rfl, hm, (map1_int_int _ _ f fi cap capi D Wr Di It xs res _ hc1 hc2 (fun h => by have := hW _ h; omega) (fun h => by have := hW _ h; omega) hs (hfun.later hm.size (fun b hb => hm.block b (hfun.1 b hb) (fun hf => hf))) hDi hDW).monoD ?_ ?_⟩
  · rintro b (rfl | rfl | h | h)
    · exact .inr (by omega)
    · exact .inr (by omega)
    · exact .inl (.inl h)
    · exact .inl (.inr h)
  · rintro b ((h | h) | h)
    · have := hseq.1 b (.inl h); omega
    · have := hfun.1 b h; omega
    · exact h.2

theorem collect_int (f : Nat) (cap : Array Value) (D Wr : Nat → Prop) (It : Option Nat → World → Prop) (xs : List Int) (w : World) (hseq : SeqSpec Try.prog (.func (.func f) #[] cap) D Wr It (xs.map fun x => #[.int .i64 x]) w) (hbig : xs.length * 8 ≤ 140737488355328) :
    Calls Try.prog 57 #[.func (.func f) #[] cap] w (RSlice (Value.int .i64) xs Wr w (It none)) := by
  have hc := appendSeq_int f cap D Wr It xs w hseq hbig (by omega)
  clear hseq
  go_enter Try.func57, Try.ntmps57
  go_wp2_with (go_at_call 108; refine hc.mono ?_; clear hc; rintro e B ⟨A', c', rfl, hr⟩)
  go_ret
  exact ⟨A', c', rfl, hr⟩
theorem list_int (f : Nat) (cap : Array Value) (D Wr : Nat → Prop) (It : Option Nat → World → Prop) (xs : List Int) (w : World) (hseq : SeqSpec Try.prog (.func (.func f) #[] cap) D Wr It (xs.map fun x => #[.int .i64 x]) w) (hbig : xs.length * 8 ≤ 140737488355328) :
    Calls Try.prog 9 #[.func (.func f) #[] cap] w (RSlice (Value.int .i64) xs Wr w (It none)) := by
  have hc := collect_int f cap D Wr It xs w hseq hbig
  clear hseq
  go_enter Try.func9, Try.ntmps9
  go_wp2_with (first
    | (go_at_call 58; refine (each_int f cap _).mono ?_; rintro e B ⟨rfl, rfl⟩)
    | (go_at_call 57; refine hc.mono ?_; clear hc; rintro e B ⟨A', c', rfl, hr⟩))
  go_ret
  exact ⟨A', c', rfl, hr⟩
theorem eqNil_seq_sl (fn : Fn) (a c : Array Value) (w : World) : (binOp .eql 42 (.func fn a c) .nilFunc).run Try.prog w = .ok (.bool false) w := by kernel_rfl
attribute [local go_sem] eqNil_seq_sl
theorem each_sl (f : Nat) (cap : Array Value) (w : World) : Calls Try.prog 64 #[.func (.func f) #[] cap] w fun e B => e = .returned (.func (.func f) #[] cap) ∧ w = B := by
  go_enter Try.func64, Try.ntmps64
  go_wp2
  go_ret
  exact ⟨rfl, rfl⟩
theorem collect_sl (f : Nat) (cap : Array Value) (D Wr : Nat → Prop) (It : Option Nat → World → Prop) (xss : List (List Int)) (w : World) (hseq : SeqRel Try.prog (.func (.func f) #[] cap) D Wr It xss.length (ERuns xss) w) (hbig : xss.length * 24 ≤ 140737488355328) :
    Calls Try.prog 63 #[.func (.func f) #[] cap] w (RSlice2 xss Wr w (It none)) := by
  have hc := appendSeq_sl f cap D Wr It xss w hseq hbig
  clear hseq
  go_enter Try.func63, Try.ntmps63
  go_wp2_with (go_at_call 111; refine hc.mono ?_; clear hc; rintro e B ⟨A', c', rfl, hr⟩)
  go_ret
  exact ⟨A', c', rfl, hr⟩
theorem list_sl (f : Nat) (cap : Array Value) (D Wr : Nat → Prop) (It : Option Nat → World → Prop) (xss : List (List Int)) (w : World) (hseq : SeqRel Try.prog (.func (.func f) #[] cap) D Wr It xss.length (ERuns xss) w) (hbig : xss.length * 24 ≤ 140737488355328) :
    Calls Try.prog 17 #[.func (.func f) #[] cap] w (RSlice2 xss Wr w (It none)) := by
  have hc := collect_sl f cap D Wr It xss w hseq hbig
  clear hseq
  go_enter Try.func17, Try.ntmps17
  go_wp2_with (first
    | (go_at_call 64; refine (each_sl f cap _).mono ?_; rintro e B ⟨rfl, rfl⟩)
    | (go_at_call 63; refine hc.mono ?_; clear hc; rintro e B ⟨A', c', rfl, hr⟩))
  go_ret
  exact ⟨A', c', rfl, hr⟩
end Go.Proofs.Ytobioeehfigmcaa
