/- Runs of a sequence. No condition but the slices' bounds. -/
import Derived.Test.YtobioeehfigmcaaRn1
set_option linter.unusedSimpArgs false
set_option linter.unusedVariables false
set_option maxRecDepth 100000
namespace Go.Proofs.Ytobioeehfigmcaa
open Go Go.RowKit Go.Shelf
attribute [local go_sem] Oper.semAt_some

/-- One element more: the runs that are whole, and the one under way. -/
def rstep (n : Nat) (s : List (List Int) × List Int) (x : Int) : List (List Int) × List Int := if s.2.length + 1 = n then (s.1 ++ [s.2 ++ [x]], []) else (s.1, s.2 ++ [x])
def rstate (n : Nat) (xs : List Int) : List (List Int) × List Int := xs.foldl (rstep n) ([], [])
def rout (s : List (List Int) × List Int) : List (List Int) := s.1 ++ (if s.2 = [] then [] else [s.2])
/-- The runs of n of a list; none where n is less than 1. -/
def runsOf (n : Int) (xs : List Int) : List (List Int) := if n < 1 then [] else rout (rstate n.toNat xs)
theorem rstate_snoc (n : Nat) (xs : List Int) (x : Int) : rstate n (xs ++ [x]) = rstep n (rstate n xs) x := by simp [rstate]
theorem snoc_ind {α : Type} {p : List α → Prop} (h0 : p []) (h1 : ∀ xs x, p xs → p (xs ++ [x])) : ∀ xs, p xs := by
  have : ∀ n (xs : List α), xs.length = n → p xs := by
    intro n
    induction n with
    | zero => intro xs h; rw [List.eq_nil_of_length_eq_zero h]; exact h0
    | succ n ih =>
      intro xs h
      have hne : xs ≠ [] := by intro e; subst e; simp at h
      rw [← List.dropLast_concat_getLast hne]
      exact h1 _ _ (ih _ (by simp [h]))
  exact fun xs => this _ xs rfl
theorem rstate_lt {n : Nat} (h : 1 ≤ n) : ∀ xs : List Int, (rstate n xs).2.length < n :=
  snoc_ind (by simp [rstate]; omega) (fun xs x ih => by rw [rstate_snoc, rstep]; split <;> simp <;> omega)
theorem rstate_mod {n : Nat} (h : 1 ≤ n) : ∀ xs : List Int, (rstate n xs).2.length = xs.length % n :=
  snoc_ind (by simp [rstate]) (fun xs x ih => by
    have := rstate_lt h xs
    rw [rstate_snoc, rstep, List.length_append, List.length_singleton]
    split
    · rename_i he
      rw [Nat.add_mod, ← ih]
      by_cases h1 : n = 1
      · subst h1; simp [Nat.mod_one]
      · rw [Nat.mod_eq_of_lt (show 1 < n by omega), he]; simp
    · rename_i he
      rw [Nat.add_mod, ← ih]
      by_cases h1 : n = 1
      · subst h1; omega
      · rw [Nat.mod_eq_of_lt (show 1 < n by omega), Nat.mod_eq_of_lt (by omega)]; simp)
theorem rstate_cnt {n : Nat} (h : 1 ≤ n) : ∀ xs : List Int, (rstate n xs).1.length + (rstate n xs).2.length ≤ xs.length :=
  snoc_ind (by simp [rstate]) (fun xs x ih => by
    rw [rstate_snoc, rstep, List.length_append, List.length_singleton]
    split <;> simp <;> omega)
theorem rfold_prefix (n : Nat) (ys : List Int) : ∀ s : List (List Int) × List Int, ∃ t, (ys.foldl (rstep n) s).1 = s.1 ++ t := by
  induction ys with
  | nil => intro s; exact ⟨[], by simp⟩
  | cons y ys ih =>
    intro s
    obtain ⟨t, ht⟩ := ih (rstep n s y)
    rw [List.foldl_cons, ht, rstep]
    split
    · exact ⟨[s.2 ++ [y]] ++ t, by simp⟩
    · exact ⟨t, rfl⟩
theorem rstate_take_prefix (n : Nat) (xs : List Int) (j : Nat) : ∃ t, (rstate n xs).1 = (rstate n (xs.take j)).1 ++ t := by
  have : rstate n xs = (xs.drop j).foldl (rstep n) (rstate n (xs.take j)) := by
    unfold rstate; rw [← List.foldl_append, List.take_append_drop]
  rw [this]; exact rfold_prefix n _ _
theorem rstate_step {n : Nat} {xs : List Int} {j : Nat} (h : j < xs.length) : rstate n (xs.take (j + 1)) = rstep n (rstate n (xs.take j)) xs[j] := by
  rw [List.take_succ_eq_append_getElem h, rstate_snoc]
/-- A run that is whole now is the next of all runs. -/
theorem rout_get {n : Nat} {xs : List Int} {j : Nat} (h : j < xs.length) (hf : (rstate n (xs.take j)).2.length + 1 = n) :
    ∃ h' : (rstate n (xs.take j)).1.length < (rout (rstate n xs)).length, (rout (rstate n xs))[(rstate n (xs.take j)).1.length] = (rstate n (xs.take j)).2 ++ [xs[j]] := by
  obtain ⟨t, ht⟩ := rstate_take_prefix n xs (j + 1)
  have hs : (rstate n (xs.take (j + 1))).1 = (rstate n (xs.take j)).1 ++ [(rstate n (xs.take j)).2 ++ [xs[j]]] := by rw [rstate_step h, rstep, if_pos hf]
  have e : rout (rstate n xs) = (rstate n (xs.take j)).1 ++ ((rstate n (xs.take j)).2 ++ [xs[j]]) :: (t ++ (if (rstate n xs).2 = [] then [] else [(rstate n xs).2])) := by
    rw [rout, ht, hs]; simp
  refine ⟨by rw [e]; simp, ?_⟩
  simp only [e]
  rw [List.getElem_append_right (Nat.le_refl _)]
  simp
theorem rout_last {n : Nat} {xs : List Int} (h : (rstate n xs).2 ≠ []) : ∃ h' : (rstate n xs).1.length < (rout (rstate n xs)).length, (rout (rstate n xs))[(rstate n xs).1.length] = (rstate n xs).2 ∧ (rout (rstate n xs)).length = (rstate n xs).1.length + 1 := by
  have e : rout (rstate n xs) = (rstate n xs).1 ++ [(rstate n xs).2] := by rw [rout, if_neg h]
  refine ⟨by rw [e]; simp, ?_, by rw [e]; simp⟩
  simp only [e]
  rw [List.getElem_append_right (Nat.le_refl _)]
  simp
theorem rout_none {n : Nat} {xs : List Int} (h : (rstate n xs).2 = []) : (rout (rstate n xs)).length = (rstate n xs).1.length := by rw [rout, if_pos h]; simp
theorem rout_len {n : Nat} (h : 1 ≤ n) (xs : List Int) : (rout (rstate n xs)).length ≤ xs.length := by
  have := rstate_cnt h xs
  by_cases h2 : (rstate n xs).2 = []
  · rw [rout_none h2]; omega
  · have h3 := (rout_last h2).2.2
    have : 0 < (rstate n xs).2.length := List.length_pos_iff.2 h2
    omega

/-- The consumer's state, seen from the inner loop: beside it the consumer's function's box and the box with the run under way. -/
def RunJ (J : Nat → (Nat → Prop) → World → Prop) (n : Nat) (xs : List Int) (y : Value) (m0 Wr : Nat → Prop) (W : World) (j : Nat) (M : Nat → Prop) (A : World) : Prop :=
  ∃ m v, M = (fun b => m b ∨ b = W.heap.size ∨ b = W.heap.size + 1 ∨ v.ownBlock = some b) ∧ J (rstate n (xs.take j)).1.length m A ∧ A.heap[W.heap.size]? = some (.cells #[y] 97 (0, 0)) ∧
    A.heap[W.heap.size + 1]? = some (.cells #[v] 22 (0, 0)) ∧ A.ownsRow (W.heap.size + 2) 3 1 v (rstate n (xs.take j)).2.length ((rstate n (xs.take j)).2.map (Value.int .i64)) ∧
    (∀ b, m b → m0 b ∨ W.heap.size ≤ b) ∧ (∀ b, (b = W.heap.size ∨ b = W.heap.size + 1 ∨ v.ownBlock = some b) → ¬ m b) ∧ Mod (fun b => m0 b ∨ Wr b) W A
def RunX (Jx : Nat → (Nat → Prop) → World → Prop) (n : Nat) (xs : List Int) (m0 Wr : Nat → Prop) (W : World) (c : Code) (j : Nat) (M : Nat → Prop) (A : World) : Prop :=
  (c = .ret ∧ ∃ i, ∃ h : i < xs.length, j = i + 1 ∧ (rstate n (xs.take i)).2.length + 1 = n) ∧ ∃ m, M = (fun b => m b ∨ b = W.heap.size ∨ b = W.heap.size + 1) ∧ Jx (rstate n (xs.take j)).1.length m A ∧ (∀ b, m b → m0 b ∨ W.heap.size ≤ b) ∧ Mod (fun b => m0 b ∨ Wr b) W A
theorem RunJ.stab {J : Nat → (Nat → Prop) → World → Prop} {n : Nat} {xs : List Int} {y : Value} {m0 Wr : Nat → Prop} {W : World} (hJ : Stab W.heap.size Wr J) (n0 : Nat) (hn : W.heap.size ≤ n0) : Stab n0 Wr (RunJ J n xs y m0 Wr W) := by
  rintro j M A B S ⟨m, v, rfl, hj, h1, h2, ho, hm, hd, hmod⟩ hAB hS hS2
  exact ⟨m, v, rfl, hJ _ _ _ _ _ hj hAB (fun b hb h => hS b hb (.inl h)) (fun b hb h => hS2 b hb (by omega)), hAB.heap h1 (fun h => hS _ h (.inr (.inl rfl))), hAB.heap h2 (fun h => hS _ h (.inr (.inr (.inl rfl)))),
    own_move ho (fun b h => hAB.block b (own_lt ho h).2 (fun hs => hS _ hs (.inr (.inr (.inr h))))), hm, hd, hmod.trans' hAB (fun b hb h => .inr (hS2 b h (by omega)))⟩
theorem RunX.stab {Jx : Nat → (Nat → Prop) → World → Prop} {n : Nat} {xs : List Int} {m0 Wr : Nat → Prop} {W : World} (hJ : Stab W.heap.size Wr Jx) (n0 : Nat) (hn : W.heap.size ≤ n0) (c : Code) : Stab n0 Wr (RunX Jx n xs m0 Wr W c) := by
  rintro j M A B S ⟨hc, m, rfl, hj, hm, hmod⟩ hAB hS hS2
  exact ⟨hc, m, rfl, hJ _ _ _ _ _ hj hAB (fun b hb h => hS b hb (.inl h)) (fun b hb h => hS2 b hb (by omega)), hm, hmod.trans' hAB (fun b hb h => .inr (hS2 b h (by omega)))⟩
theorem RunJ.rng {J : Nat → (Nat → Prop) → World → Prop} {n : Nat} {xs : List Int} {y : Value} {m0 Wr D D' : Nat → Prop} {W : World} (hR : Rng D Wr J) (hD : ∀ b, D' b → D b) (hlt : ∀ b, D b ∨ Wr b → b < W.heap.size) : Rng D' Wr (RunJ J n xs y m0 Wr W) := by
  rintro j M A ⟨m, v, rfl, hj, h1, h2, ho, hm, hd, hmod⟩ b hb
  have key : W.heap.size ≤ b → b < A.heap.size → b < A.heap.size ∧ ¬ D' b ∧ ¬ Wr b := fun h1 h2 => ⟨h2, fun h => by have := hlt b (.inl (hD b h)); omega, fun h => by have := hlt b (.inr h); omega⟩
  rcases hb with hb | rfl | rfl | hb
  · obtain ⟨g1, g2, g3⟩ := hR _ _ _ hj b hb
    exact ⟨g1, fun h => g2 (hD b h), g3⟩
  · exact key (Nat.le_refl _) (Array.getElem?_eq_some_iff.1 h1).1
  · exact key (by omega) (Array.getElem?_eq_some_iff.1 h2).1
  · have := own_lt ho hb; exact key (by omega) this.2

theorem run_row {W : World} {base : Nat} {A : Option Addr} {n c : Nat} {ys : List Int} (h : W.ownsRow base 3 1 (.slice A n c) ys.length (ys.map (Value.int .i64))) (hl : ys.length ≤ 140737488351232) :
    Row1 (Value.int .i64) (fun b => (Value.slice A n c).ownBlock = some b) W A ys := by
  obtain ⟨A', c', e, hr⟩ := Row1.of_own h hl
  cases e
  exact hr.mono (fun b hb => hb.2.2)

set_option maxHeartbeats 2000000 in
theorem runs1_int (bn bs f : Nat) (n : Int) (cap : Array Value) (D Wr : Nat → Prop) (It : Option Nat → World → Prop) (xs : List Int) (w : World)
    (hn : w.cell? ⟨bn, 0, none⟩ = some (.int .i64 n)) (hs : w.cell? ⟨bs, 0, none⟩ = some (.func (.func f) #[] cap)) (hnW : ¬ Wr bn) (hsW : ¬ Wr bs)
    (hseq : SeqSpec Try.prog (.func (.func f) #[] cap) D Wr It (xs.map fun x => #[.int .i64 x]) w) (hbig : xs.length * 8 ≤ 140737488355328) (hn2 : n ≤ 9223372036854775807) :
    SeqRel Try.prog (.func (.func 65) #[] #[.pointer (some ⟨bn, 0, none⟩), .pointer (some ⟨bs, 0, none⟩)]) (fun b => b = bn ∨ b = bs ∨ D b) Wr (fun _ _ => True) (runsOf n xs).length (ERuns (runsOf n xs)) w := by
  refine ⟨?_, fun _ _ _ _ _ => trivial, ?_⟩
  · rintro b ((rfl | rfl | h) | h)
    · exact World.block_lt_of_cell? w _ hn
    · exact World.block_lt_of_cell? w _ hs
    · exact hseq.1 b (.inl h)
    · exact hseq.1 b (.inr h)
  intro yf ya yc J Jx m W hW hD' hJ hJx hR hY h0
  refine .fn _ _ _ _ _ (enters_of Try.func65 (by kernel_rfl) rfl) (calls_of_FW (ro := none) (n := 0) ?_)
  refine callsIn_of_wp_marks Try.func65 rfl trivial ?_
  simp only [Try.ntmps65, List.size_toArray, List.length_cons, List.length_nil, Nat.reduceAdd, Nat.reduceSub, Array.replicate_succ, Array.replicate_zero, List.push_toArray, List.append_toArray, List.nil_append, List.cons_append]
  have hsW1 : W.cell? ⟨bs, 0, none⟩ = some (.func (.func f) #[] cap) := (World.cell?_of_block (hD' bs (.inl (.inr (.inl rfl))))).trans hs
  have hnW1 : W.cell? ⟨bn, 0, none⟩ = some (.int .i64 n) := (World.cell?_of_block (hD' bn (.inl (.inl rfl)))).trans hn
  have hbs : bs < W.heap.size := World.block_lt_of_cell? W _ hsW1
  have hbn : bn < W.heap.size := World.block_lt_of_cell? W _ hnW1
  have hlt0 : ∀ b, (b = bn ∨ b = bs ∨ D b) ∨ Wr b → b < W.heap.size := by
    rintro b ((rfl | rfl | h) | h)
    · exact hbn
    · exact hbs
    · exact Nat.lt_of_lt_of_le (hseq.1 b (.inl h)) hW
    · exact Nat.lt_of_lt_of_le (hseq.1 b (.inr h)) hW
  by_cases hn0 : n < 1
  · have HJ : Hid (Stab W.heap.size Wr J ∧ J 0 m W) := ⟨hJ, h0⟩
    have HN : Hid ((runsOf n xs).length = 0) := by show _ = _; rw [runsOf, if_pos hn0]; rfl
    clear hseq hJ hJx hR hY h0 hs hn hD'
    gi_wp2
    have hM : Mod Nil0 W (W.alloc (.cells #[.func yf ya yc] 97)) := (Mod.refl _ _).alloc _
    refine ⟨_, results_none rfl _ _ _, ⟨_, rfl⟩, m, fun b hb => .inl hb, hM.mono (fun _ _ hf => hf.elim), .inl ⟨?_, trivial⟩⟩
    rw [HN.out]
    exact HJ.out.1 _ _ _ _ _ HJ.out.2 hM (fun _ hf => hf.elim) (fun _ hf => hf.elim)
  obtain ⟨N, rfl⟩ : ∃ N : Nat, n = N := ⟨n.toNat, by omega⟩
  have hN1 : 1 ≤ N := by omega
  have hxss : runsOf (N : Int) xs = rout (rstate N xs) := by rw [runsOf, if_neg hn0, Int.toNat_natCast]
  rw [hxss] at hY ⊢
  clear hxss
  have HNN : Hid (1 ≤ N) := hN1
  gi_wp2_with (gi_at_call 58; refine (calls_FW (ro := none) (each_int f cap _)).mono ?_; rintro e B ⟨rfl, rfl⟩)
  have hyb : ((W.alloc (.cells #[.func yf ya yc] 97)).alloc (.cells #[.slice none 0 0] 22)).heap[W.heap.size]? = some (.cells #[.func yf ya yc] 97 (0, 0)) :=
    (Below.heap_alloc _ _ _ (by simp)).trans (World.alloc_heap_new W _)
  have hrb : ((W.alloc (.cells #[.func yf ya yc] 97)).alloc (.cells #[.slice none 0 0] 22)).heap[W.heap.size + 1]? = some (.cells #[.slice none 0 0] 22 (0, 0)) := by
    have := World.alloc_heap_new (W.alloc (.cells #[.func yf ya yc] 97)) (.cells #[.slice none 0 0] 22); rwa [World.size_alloc] at this
  have hM1 : Mod Nil0 W ((W.alloc (.cells #[.func yf ya yc] 97)).alloc (.cells #[.slice none 0 0] 22)) := ((Mod.refl _ _).alloc _).alloc _
  have hsz1 : ((W.alloc (.cells #[.func yf ya yc] 97)).alloc (.cells #[.slice none 0 0] 22)).heap.size = W.heap.size + 2 := by simp
  generalize hW1 : (W.alloc (.cells #[.func yf ya yc] 97)).alloc (.cells #[.slice none 0 0] 22) = W1 at hyb hrb hM1 hsz1 ⊢
  clear hW1
  have hseq1 : SeqSpec Try.prog (.func (.func f) #[] cap) D Wr It (xs.map fun x => #[.int .i64 x]) W1 := (hseq.later hW (fun b hb => hD' b (hb.elim (fun h => .inl (.inr (.inr h))) .inr))).mod hM1 (fun _ _ hf => hf)
  have hm0 : ∀ b, m b → b < W.heap.size ∧ ¬ (b = bn ∨ b = bs ∨ D b) ∧ ¬ Wr b := hR 0 m W h0
  refine wpIn_range0 rfl hseq1 (RunJ J N xs (.func yf ya yc) m Wr W) (RunX Jx N xs m Wr W)
    (fun b => m b ∨ b = W.heap.size ∨ b = W.heap.size + 1 ∨ (Value.slice none 0 0).ownBlock = some b) ?hps (RunJ.stab hJ W1.heap.size (by omega)) (RunX.stab hJx W1.heap.size (by omega)) (RunJ.rng hR (fun b hb => .inr (.inr hb)) hlt0) ?h0 ?hround ?hdone ?hstop
  case hps => intro x hxm; simp only [List.mem_map] at hxm; obtain ⟨v, _, rfl⟩ := hxm; rfl
  case h0 =>
    refine ⟨m, .slice none 0 0, rfl, hJ 0 m W W1 Nil0 h0 hM1 (fun _ hf => hf.elim) (fun _ hf => hf.elim), hyb, hrb, World.ownsRow_nil _ _ _ _, fun b hb => .inl hb, ?_, hM1.mono (fun _ _ hf => hf.elim)⟩
    rintro b (rfl | rfl | h) hm
    · have := (hm0 _ hm).1; omega
    · have := (hm0 _ hm).1; omega
    · simp [Value.ownBlock] at h
  case hround =>
    intro l k hk M A hl hlA hml hJk
    have hk' : k < xs.length := by simpa using hk
    simp only [List.getElem_map]
    simp only [List.zip_toArray, List.zip_cons_cons, List.zip_nil_right, List.foldl_toArray', List.foldl_cons, List.foldl_nil]
    clear hJk hml
    gi_wp2
    refine ⟨Mod.refl _ _, fun A2 hA2 hrec hJ2 => ?_⟩
    have hs2 := hA2.size
    obtain ⟨m1, v, rfl, hj, hy2, hr2, hown, hm1, hd1, hmod⟩ := hJ2
    have hsA : W.heap.size ≤ A2.heap.size := hmod.size
    have hrlt := (Array.getElem?_eq_some_iff.1 hr2).1
    have hcnt := rstate_cnt hN1 (xs.take k)
    have hltN := rstate_lt hN1 (xs.take k)
    rw [List.length_take] at hcnt
    generalize hrun : (rstate N (xs.take k)).2 = run at *
    obtain ⟨Av, cv, rfl⟩ : ∃ A c, v = .slice A run.length c := own_shape hown
    have hbv := cell_of_one' hr2
    have hnc : A2.cell? ⟨bn, 0, none⟩ = some (.int .i64 N) := hmod.cell hnW1 (fun h => h.elim (fun h => (hm0 _ h).2.1 (.inl rfl)) hnW)
    have hnv : (Value.slice Av run.length cv).ownBlock ≠ some (W.heap.size + 1) := fun h => by have := (own_lt hown h).1; omega
    have hny : (Value.slice Av run.length cv).ownBlock ≠ some W.heap.size := fun h => by have := (own_lt hown h).1; omega
    have HO : Hid (A2.ownsRow (W.heap.size + 2) 3 1 (.slice Av run.length cv) run.length (run.map (Value.int .i64))) := hown
    have HB : Hid (A2.heap[W.heap.size + 1]? = some (.cells #[.slice Av run.length cv] 22 (0, 0)) ∧ A2.heap[W.heap.size]? = some (.cells #[.func yf ya yc] 97 (0, 0))) := ⟨hr2, hy2⟩
    have HR : Hid ((rstate N (xs.take k)).2 = run) := hrun
    have HJJ : Hid (Stab W.heap.size Wr J) := hJ
    have HD : Hid (∀ b, (b = W.heap.size ∨ b = W.heap.size + 1 ∨ (Value.slice Av run.length cv).ownBlock = some b) → ¬ m1 b) := hd1
    -- behind the append and the store
    have stored : ∀ (w1 : World) (v1 : Value), w1.ownsRow (W.heap.size + 2) 3 1 v1 (run.length + 1) (run.map (Value.int .i64) ++ [.int .i64 xs[k]]) → Mod (fun b => (Value.slice Av run.length cv).ownBlock = some b) A2 w1 → (∀ b, v1.ownBlock = some b → (Value.slice Av run.length cv).ownBlock = some b ∨ A2.heap.size ≤ b) →
        Mod (fun b => b = W.heap.size + 1 ∨ (Value.slice Av run.length cv).ownBlock = some b) A2 (w1.setCell ⟨W.heap.size + 1, 0, none⟩ v1) ∧ J (rstate N (xs.take k)).1.length m1 (w1.setCell ⟨W.heap.size + 1, 0, none⟩ v1) ∧
        (w1.setCell ⟨W.heap.size + 1, 0, none⟩ v1).heap[W.heap.size]? = some (.cells #[.func yf ya yc] 97 (0, 0)) ∧ (w1.setCell ⟨W.heap.size + 1, 0, none⟩ v1).heap[W.heap.size + 1]? = some (.cells #[v1] 22 (0, 0)) ∧
        (w1.setCell ⟨W.heap.size + 1, 0, none⟩ v1).ownsRow (W.heap.size + 2) 3 1 v1 (run ++ [xs[k]]).length ((run ++ [xs[k]]).map (Value.int .i64)) ∧ (∀ b, v1.ownBlock = some b → ¬ m1 b ∧ W.heap.size + 2 ≤ b) := by
      intro w1 v1 hown1 hg1 hv1
      have hM : Mod (fun b => b = W.heap.size + 1 ∨ (Value.slice Av run.length cv).ownBlock = some b) A2 (w1.setCell ⟨W.heap.size + 1, 0, none⟩ v1) := (hg1.mono (fun _ _ h => .inr h)).setCell ⟨W.heap.size + 1, 0, none⟩ _ (fun _ => .inl rfl)
      have hb1 := hg1.heap hr2 hnv
      refine ⟨hM, hJ _ _ _ _ _ hj hM (fun b hb h => hd1 b (.inr hb) h) (fun b hb h => ?_), hM.heap hy2 (fun h => h.elim (by omega) hny), Boxed.set (B := W.heap.size + 1) _ hb1, own_move (by simpa using hown1) (fun b hb => Below.heap_setCell _ _ _ _ ?_), fun b hb => ⟨fun h => ?_, (own_lt hown1 hb).1⟩⟩
      · rcases hb with rfl | hb
        · omega
        · have := (own_lt hown hb).1; omega
      · have := (own_lt hown1 hb).1; simp only; omega
      · rcases hv1 b hb with hb | hb
        · exact hd1 b (.inr (.inr hb)) h
        · have := (hR _ _ _ hj b h).1; omega
    have HS : Hid (∀ (w1 : World) (v1 : Value), w1.ownsRow (W.heap.size + 2) 3 1 v1 (run.length + 1) (run.map (Value.int .i64) ++ [.int .i64 xs[k]]) → Mod (fun b => (Value.slice Av run.length cv).ownBlock = some b) A2 w1 → (∀ b, v1.ownBlock = some b → (Value.slice Av run.length cv).ownBlock = some b ∨ A2.heap.size ≤ b) →
        Mod (fun b => b = W.heap.size + 1 ∨ (Value.slice Av run.length cv).ownBlock = some b) A2 (w1.setCell ⟨W.heap.size + 1, 0, none⟩ v1) ∧ J (rstate N (xs.take k)).1.length m1 (w1.setCell ⟨W.heap.size + 1, 0, none⟩ v1) ∧
        (w1.setCell ⟨W.heap.size + 1, 0, none⟩ v1).heap[W.heap.size]? = some (.cells #[.func yf ya yc] 97 (0, 0)) ∧ (w1.setCell ⟨W.heap.size + 1, 0, none⟩ v1).heap[W.heap.size + 1]? = some (.cells #[v1] 22 (0, 0)) ∧
        (w1.setCell ⟨W.heap.size + 1, 0, none⟩ v1).ownsRow (W.heap.size + 2) 3 1 v1 (run ++ [xs[k]]).length ((run ++ [xs[k]]).map (Value.int .i64)) ∧ (∀ b, v1.ownBlock = some b → ¬ m1 b ∧ W.heap.size + 2 ≤ b)) := stored
    have hmbn : ¬ (Value.slice Av run.length cv).ownBlock = some bn := fun h => by have := (own_lt hown h).1; omega
    by_cases hfull : run.length + 1 = N
    · have hnf : ¬ (run.length : Int) + 1 < N := by omega
      obtain ⟨hk2, hg2⟩ := rout_get hk' (by rw [hrun]; exact hfull)
      rw [hrun] at hg2
      have HST : Hid (rstate N (xs.take (k + 1)) = ((rstate N (xs.take k)).1 ++ [run ++ [xs[k]]], [])) := by show _ = _; rw [rstate_step hk', rstep, hrun, if_pos hfull]
      have HYC : Hid (∀ (A3 : World) (A1 : Option Addr) (c1 : Nat), J (rstate N (xs.take k)).1.length m1 A3 → Row1 (Value.int .i64) (fun b => (Value.slice A1 (run.length + 1) c1).ownBlock = some b) A3 A1 (run ++ [xs[k]]) →
          (∀ b, (Value.slice A1 (run.length + 1) c1).ownBlock = some b → W.heap.size ≤ b ∧ b < A3.heap.size ∧ ¬ m1 b) → W.heap.size ≤ A3.heap.size →
          CallV Try.prog (.func yf ya yc) #[.slice A1 (run.length + 1) c1] A3 (YPostG J Jx (rstate N (xs.take k)).1.length m1 (fun b => (Value.slice A1 (run.length + 1) c1).ownBlock = some b) A3)) :=
        fun A3 A1 c1 h1 h2 h3 h4 => hY _ hk2 m1 A3 _ _ h1 ⟨hk2, A1, c1, by rw [hg2]; simp, by rw [hg2]; exact h2⟩ h3 h4
      have HF : Hid (run.length + 1 = N) := hfull
      clear stored hY hJ hJx hR hseq hseq1 hD' hown hr2 hy2 hrun hj hs hn h0 hfull hd1 hk2 hg2
      gi_wp2_with (first
        | (gi_at_builtin; refine app1 (W.heap.size + 2) rfl _ _ 22 3 (.int .i64 0) 1 8 rfl Try.underlying22 info_int rfl (by decide) (by decide) (.slice Av run.length cv) run.length (run.map (Value.int .i64)) [.int .i64 xs[k]] rfl rfl rfl (by simp [Value.oneCell']) HO.out (by omega) (by omega) ?_; rintro v1 w1 hown1 hg1 hv1 ⟨A1, c1, rfl⟩; have hbw := hg1.cell hbv hnv; have hfw := free_of_one' (hg1.heap HB.out.1 hnv); have hncw := hg1.cell hnc hmbn; have hyw := cell_of_one' (hg1.heap HB.out.2 hny))
        | (refine wpListIn_callV (v := .func yf ya yc) (argl := [.slice A1 (run.length + 1) c1]) rfl rfl rfl ?_; obtain ⟨hM, hj2, hy2, hr2, ho2, hd2⟩ := HS.out w1 _ hown1 hg1 hv1; have hslt := hM.size; refine (HYC.out _ A1 c1 hj2 (run_row ho2 (by simp only [List.length_append, List.length_singleton]; omega)) (fun b hb => ⟨by have := (hd2 b hb).2; omega, (own_lt ho2 hb).2, (hd2 b hb).1⟩) (by omega)).mono ?_; rintro e C ⟨m2, hm2a, hm2b, (⟨rfl, hj3⟩ | ⟨rfl, hj3⟩)⟩ <;> simp only [afterCall] <;> have hrC := cell_of_one' (hm2a.heap hr2 (HD.out _ (.inr (.inl rfl)))) <;> have hfC := free_of_one' (hm2a.heap hr2 (HD.out _ (.inr (.inl rfl)))))) 
      all_goals
        have hsC := hm2a.size
        have hAC : Mod (fun b => m1 b ∨ b = W.heap.size ∨ b = W.heap.size + 1 ∨ (Value.slice Av run.length cv).ownBlock = some b) A2 C := (hM.mono (fun b _ h => .inr (.inr h))).trans' hm2a (fun b _ h => .inl h)
        have hsub : ∀ b, m2 b → (m1 b ∨ b = W.heap.size ∨ b = W.heap.size + 1 ∨ (Value.slice Av run.length cv).ownBlock = some b) ∨ A2.heap.size ≤ b := fun b h => by
          rcases hm2b b h with h | h | h
          · exact .inl (.inl h)
          · exact (hv1 b h).imp (fun h => .inr (.inr (.inr h))) id
          · right; omega
        have hsub0 : ∀ b, m2 b → m b ∨ W.heap.size ≤ b := fun b h => by
          rcases hm2b b h with h | h | h
          · exact hm1 b h
          · right; have := (hd2 b h).2; omega
          · right; omega
        have hmodC : Mod (fun b => m b ∨ Wr b) W C := hmod.trans' hAC (fun b hb h => by
          rcases h with h | h | h | h
          · rcases hm1 b h with h | h
            · exact .inl h
            · omega
          · omega
          · omega
          · have := (own_lt HO.out h).1; omega)
        have hyC := hm2a.heap hy2 (HD.out _ (.inl rfl))
        have hrC2 := hm2a.heap hr2 (HD.out _ (.inr (.inl rfl)))
        have hnm2 : ∀ b, (b = W.heap.size ∨ b = W.heap.size + 1) → ¬ m2 b := fun b hb h => by
          rcases hm2b b h with h | h | h
          · exact HD.out b (by omega) h
          · have := (hd2 b h).2; omega
          · omega
      · have hMr : Mod (· = W.heap.size + 1) C (C.setCell ⟨W.heap.size + 1, 0, none⟩ (.slice none 0 0)) := (Mod.refl _ _).setCell ⟨W.heap.size + 1, 0, none⟩ _ (fun _ => rfl)
        refine ⟨fun b => m2 b ∨ b = W.heap.size ∨ b = W.heap.size + 1 ∨ (Value.slice none 0 0).ownBlock = some b, hAC.trans' hMr (fun b _ h => .inr (.inr (.inl h))), ?_, m2, .slice none 0 0, rfl, ?_, hMr.heap hyC (by omega), Boxed.set (B := W.heap.size + 1) _ hrC2, ?_, hsub0, ?_, hmodC.trans' hMr (fun b hb h => by omega)⟩
        · rintro b (h | h | h | h)
          · exact (hsub b h).imp id (fun h => by omega)
          · exact .inl (.inr (.inl h))
          · exact .inl (.inr (.inr (.inl h)))
          · simp [Value.ownBlock] at h
        · rw [HST.out]; simp only [List.length_append, List.length_singleton]
          exact HJJ.out _ _ _ _ _ hj3 hMr (fun b hb h => hnm2 b (.inr hb) h) (fun b hb h => by omega)
        · rw [HST.out]; exact World.ownsRow_nil _ _ _ _
        · rintro b (h | h | h)
          · exact hnm2 b (.inl h)
          · exact hnm2 b (.inr h)
          · simp [Value.ownBlock] at h
      · refine ⟨fun b => m2 b ∨ b = W.heap.size ∨ b = W.heap.size + 1, hAC, ?_, ⟨rfl, k, hk', rfl, by rw [HR.out]; exact HF.out⟩, m2, rfl, ?_, hsub0, hmodC⟩
        · rintro b (h | h | h)
          · exact (hsub b h).imp id (fun h => by omega)
          · exact .inl (.inr (.inl h))
          · exact .inl (.inr (.inr (.inl h)))
        · rw [HST.out]; simp only [List.length_append, List.length_singleton]
          exact hj3
    · have hnf : (run.length : Int) + 1 < N := by omega
      have HST : Hid (rstate N (xs.take (k + 1)) = ((rstate N (xs.take k)).1, run ++ [xs[k]])) := by show _ = _; rw [rstate_step hk', rstep, hrun, if_neg hfull]
      clear stored hY hJ hJx hR hseq hseq1 hD' hown hr2 hy2 hrun hj hs hn h0 hfull hd1
      gi_wp2_with (gi_at_builtin; refine app1 (W.heap.size + 2) rfl _ _ 22 3 (.int .i64 0) 1 8 rfl Try.underlying22 info_int rfl (by decide) (by decide) (.slice Av run.length cv) run.length (run.map (Value.int .i64)) [.int .i64 xs[k]] rfl rfl rfl (by simp [Value.oneCell']) HO.out (by omega) (by omega) ?_; rintro v1 w1 hown1 hg1 hv1 ⟨A1, c1, rfl⟩; have hbw := hg1.cell hbv hnv; have hfw := free_of_one' (hg1.heap HB.out.1 hnv); have hncw := hg1.cell hnc hmbn)
      obtain ⟨hM, hj2, hy2, hr2, ho2, hd2⟩ := HS.out w1 _ hown1 hg1 hv1
      have hslt := hM.size
      refine ⟨fun b => m1 b ∨ b = W.heap.size ∨ b = W.heap.size + 1 ∨ (Value.slice A1 (run.length + 1) c1).ownBlock = some b, hM.mono (fun b _ h => .inr (.inr h)), ?_, m1, .slice A1 (run.length + 1) c1, rfl, ?_, hy2, hr2, ?_, hm1, ?_, hmod.trans' hM (fun b hb h => ?_)⟩
      · rintro b (h | h | h | h)
        · exact .inl (.inl h)
        · exact .inl (.inr (.inl h))
        · exact .inl (.inr (.inr (.inl h)))
        · exact (hv1 b h).imp (fun h => .inr (.inr (.inr h))) (fun h => by omega)
      · rw [HST.out]; exact hj2
      · rw [HST.out]; exact ho2
      · rintro b (h | h | h)
        · exact HD.out b (.inl h)
        · exact HD.out b (.inr (.inl h))
        · exact (hd2 b h).1
      · rcases h with h | h
        · omega
        · have := (own_lt HO.out h).1; omega
  case hdone =>
    rintro d m' B hd hdB hmd ⟨hsub, hmod, ⟨m1, v, rfl, hj, hy2, hr2, hown, hm1, hd1, hmodW⟩, hit⟩
    rw [List.length_map, List.take_length] at hj hown
    have hsB := hmodW.size
    have hdlt := (Array.getElem?_eq_some_iff.1 hdB).1
    have hbv := cell_of_one' hr2
    have hyv := cell_of_one' hy2
    have hrlt := (Array.getElem?_eq_some_iff.1 hr2).1
    have hcnt := rstate_cnt hN1 xs
    by_cases hlast : (rstate N xs).2 = []
    · have hv : ∃ A c, v = .slice A 0 c := by have := own_shape hown; rwa [hlast] at this
      obtain ⟨Av, cv, rfl⟩ := hv
      have HL : Hid ((rout (rstate N xs)).length = (rstate N xs).1.length) := rout_none hlast
      have HJ : Hid (Stab W.heap.size Wr J ∧ J (rstate N xs).1.length m1 B) := ⟨hJ, hj⟩
      clear hlast hY hJ hJx hR hseq hseq1 hD' hown hj hcnt h0
      gi_wp2
      refine leaves_one hdB ⟨_, results_none rfl _ _ _, ⟨_, rfl⟩, m1, hm1, hmodW.putObj _ _ (fun h => by omega), .inl ⟨?_, trivial⟩⟩
      rw [HL.out]
      exact HJ.out.1 _ _ _ _ _ HJ.out.2 ((Mod.refl (· = d) B).putObj d (.deferred none) (fun _ => rfl)) (fun b hb h => hmd (by subst hb; exact .inl h)) (fun b hb h => by subst hb; omega)
    · obtain ⟨hk2, hg2, hl2⟩ := rout_last hlast
      have hpos : 0 < (rstate N xs).2.length := List.length_pos_iff.2 hlast
      generalize hrun : (rstate N xs).2 = run at *
      obtain ⟨Av, cv, rfl⟩ : ∃ A c, v = .slice A run.length c := own_shape hown
      have hrow := run_row hown (by omega)
      have hYC := hY _ hk2 m1 B _ (fun b => (Value.slice Av run.length cv).ownBlock = some b) hj ⟨hk2, Av, cv, by rw [hg2], by rw [hg2]; exact hrow⟩ (fun b hb => ⟨by have := (own_lt hown hb).1; omega, (own_lt hown hb).2, hd1 b (.inr (.inr hb))⟩) hsB
      have HY : Hid (CallV Try.prog (.func yf ya yc) #[.slice Av run.length cv] B (YPostG J Jx (rstate N xs).1.length m1 (fun b => (Value.slice Av run.length cv).ownBlock = some b) B)) := hYC
      have HL : Hid ((rout (rstate N xs)).length = (rstate N xs).1.length + 1) := hl2
      have HJ : Hid (Stab W.heap.size Wr J ∧ Stab W.heap.size Wr Jx ∧ (∀ b, (Value.slice Av run.length cv).ownBlock = some b → W.heap.size + 2 ≤ b) ∧ ¬ m1 d ∧ ¬ (Value.slice Av run.length cv).ownBlock = some d) := ⟨hJ, hJx, fun b hb => (own_lt hown hb).1, fun h => hmd (.inl h), fun h => hmd (.inr (.inr (.inr h)))⟩
      clear hlast hY hYC hJ hJx hR hseq hseq1 hD' hown hj hcnt h0 hrun hg2 hl2 hk2 hrow
      gi_wp2_with (refine wpListIn_callV (v := .func yf ya yc) (argl := [.slice Av run.length cv]) rfl rfl rfl (HY.out.mono ?_); rintro e C ⟨m2, hm2a, hm2b, (⟨rfl, hj3⟩ | ⟨rfl, hj3⟩)⟩ <;> simp only [afterCall])
      all_goals
        obtain ⟨hJ, hJx, hge, hnd, hnd2⟩ := HJ.out
        have hdC := hm2a.heap hdB hnd
        have hmd2 : ¬ m2 d := fun h => by
          rcases hm2b d h with h | h | h
          · exact hnd h
          · exact hnd2 h
          · omega
        have hsub0 : ∀ b, m2 b → m b ∨ W.heap.size ≤ b := fun b h => by
          rcases hm2b b h with h | h | h
          · exact hm1 b h
          · right; have := hge b h; omega
          · right; omega
        have hmodC : Mod (fun b => m b ∨ Wr b) W C := hmodW.trans' hm2a (fun b hb h => by
          rcases hm1 b h with h | h
          · exact .inl h
          · omega)
      · refine leaves_one hdC ⟨_, results_none rfl _ _ _, ⟨_, rfl⟩, m2, hsub0, hmodC.putObj _ _ (fun h => by omega), .inl ⟨?_, trivial⟩⟩
        rw [HL.out]
        exact hJ _ _ _ _ _ hj3 ((Mod.refl (· = d) C).putObj d (.deferred none) (fun _ => rfl)) (fun b hb h => hmd2 (by subst hb; exact h)) (fun b hb h => by subst hb; omega)
      · refine leaves_one hdC ⟨_, results_none rfl _ _ _, ⟨_, rfl⟩, m2, hsub0, hmodC.putObj _ _ (fun h => by omega), .inr ⟨(rstate N xs).1.length, by rw [HL.out]; omega, ?_, trivial⟩⟩
        exact hJx _ _ _ _ _ hj3 ((Mod.refl (· = d) C).putObj d (.deferred none) (fun _ => rfl)) (fun b hb h => hmd2 (by subst hb; exact h)) (fun b hb h => by subst hb; omega)
  case hstop =>
    rintro d m' B c j hj' hd hdB hmd ⟨hsub, hmod, ⟨⟨rfl, i, hi, e, hfull⟩, m1, rfl, hj, hm1, hmodW⟩, hit⟩
    obtain rfl : j = i := by omega
    obtain ⟨hk2, hg2⟩ := rout_get hi hfull
    have hst : (rstate N (xs.take (j + 1))).1.length = (rstate N (xs.take j)).1.length + 1 := by rw [rstate_step hi, rstep, if_pos hfull]; simp
    gi_wp2
    refine leaves_one hdB ⟨_, results_none rfl _ _ _, ⟨_, rfl⟩, m1, hm1, hmodW.putObj _ _ (fun h => by omega), .inr ⟨_, hk2, ?_, trivial⟩⟩
    rw [← hst]
    exact hJx _ _ _ _ _ hj ((Mod.refl (· = d) B).putObj d (.deferred none) (fun _ => rfl)) (fun b hb h => hmd (by subst hb; exact .inl h)) (fun b hb h => by subst hb; omega)
end Go.Proofs.Ytobioeehfigmcaa
