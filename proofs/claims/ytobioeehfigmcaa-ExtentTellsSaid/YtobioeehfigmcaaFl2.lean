/- First of a sequence. No condition. -/
import Derived.Test.YtobioeehfigmcaaFl1
set_option linter.unusedSimpArgs false
set_option linter.unusedVariables false
set_option maxRecDepth 100000
namespace Go.Proofs.Ytobioeehfigmcaa
open Go Go.RowKit Go.Shelf
attribute [local go_sem] Oper.semAt_some

def FIt {α : Type} (n : Int) (xs : List α) (It : Option Nat → World → Prop) : Option Nat → World → Prop
  | none, W => if n.toNat ≤ xs.length then It (some n.toNat) W else It none W
  | some k, W => It (some k) W
/-- A round said 'no more': the consumer did (X), or all n have come (Y). -/
def FX (n : Int) (N : Nat) (X Y : Nat → (Nat → Prop) → World → Prop) (c : Code) (j : Nat) (M : Nat → Prop) (A : World) : Prop :=
  c = .ret ∧ (((j : Int) ≤ n ∧ X j M A) ∨ ((j : Int) = n ∧ Y j M A))
theorem FX.stab {n : Int} {N n0 : Nat} {Wr : Nat → Prop} {X Y : Nat → (Nat → Prop) → World → Prop} (hX : Stab n0 Wr X) (hY : Stab n0 Wr Y) (c : Code) : Stab n0 Wr (FX n N X Y c) := by
  rintro k m A B S ⟨hc, h⟩ hm h1 h2
  exact ⟨hc, h.imp (fun h => ⟨h.1, hX _ _ _ _ _ h.2 hm h1 h2⟩) (fun h => ⟨h.1, hY _ _ _ _ _ h.2 hm h1 h2⟩)⟩
/-- The maker's own two blocks: the consumer's function and what is left. -/
def FBox (b : Nat) (t t3 : TypeId) (y : Value) (n : Int) (j : Nat) (A : World) : Prop :=
  A.heap[b]? = some (.cells #[y] t (0, 0)) ∧ A.heap[b + 1]? = some (.cells #[.int .i64 (n - j)] t3 (0, 0))
theorem FBox.stab (b : Nat) (t t3 : TypeId) (y : Value) (n : Int) : PrStab (fun x => x = b ∨ x = b + 1) (FBox b t t3 y n) := fun j A B S h hm hS => ⟨hm.heap h.1 (fun hs => hS _ hs (.inl rfl)), hm.heap h.2 (fun hs => hS _ hs (.inr rfl))⟩

set_option maxHeartbeats 2000000 in
theorem first1_int (bn bs f : Nat) (n : Int) (cap : Array Value) (D Wr : Nat → Prop) (It : Option Nat → World → Prop) (xs : List Int) (w : World)
    (hn : w.cell? ⟨bn, 0, none⟩ = some (.int .i64 n)) (hs : w.cell? ⟨bs, 0, none⟩ = some (.func (.func f) #[] cap)) (hnW : ¬ Wr bn) (hsW : ¬ Wr bs) (hDW : ∀ b, D b → ¬ Wr b)
    (hseq : SeqSpec Try.prog (.func (.func f) #[] cap) D Wr It (xs.map fun x => #[Value.int .i64 x]) w) (hI0 : It (some 0) w) (hn1 : -9223372036854775808 ≤ n) (hn2 : n ≤ 9223372036854775807) :
    SeqSpec Try.prog (.func (.func 59) #[] #[.pointer (some ⟨bn, 0, none⟩), .pointer (some ⟨bs, 0, none⟩)]) (fun b => b = bn ∨ b = bs ∨ D b) Wr (FIt n xs It) ((xs.take n.toNat).map fun x => #[Value.int .i64 x]) w := by
  refine ⟨?_, ?_, ?_⟩
  · rintro b ((rfl | rfl | h) | h)
    · exact World.block_lt_of_cell? w _ hn
    · exact World.block_lt_of_cell? w _ hs
    · exact hseq.1 b (.inl h)
    · exact hseq.1 b (.inr h)
  · rintro (_ | k) A B h hS
    · simp only [FIt] at h ⊢
      split at h
      · rw [if_pos ‹_›]; exact hseq.2.1 _ _ _ h hS
      · rw [if_neg ‹_›]; exact hseq.2.1 _ _ _ h hS
    · exact hseq.2.1 _ _ _ h hS
  intro yf ya yc J Jx m W hW hD' hJ hJx hR hY h0
  refine .fn _ _ _ _ _ (enters_of Try.func59 (by kernel_rfl) rfl) (calls_of_FW (ro := none) (n := 0) ?_)
  refine callsIn_of_wp_marks Try.func59 rfl trivial ?_
  simp only [Try.ntmps59, List.size_toArray, List.length_cons, List.length_nil, Nat.reduceAdd, Nat.reduceSub, Array.replicate_succ, Array.replicate_zero, List.push_toArray, List.append_toArray, List.nil_append, List.cons_append]
  have hsW1 : W.cell? ⟨bs, 0, none⟩ = some (.func (.func f) #[] cap) := (World.cell?_of_block (hD' bs (.inl (.inr (.inl rfl))))).trans hs
  have hnW1 : W.cell? ⟨bn, 0, none⟩ = some (.int .i64 n) := (World.cell?_of_block (hD' bn (.inl (.inl rfl)))).trans hn
  have hbs : bs < W.heap.size := World.block_lt_of_cell? W _ hsW1
  have hbn : bn < W.heap.size := World.block_lt_of_cell? W _ hnW1
  have hI0W : It (some 0) W := hseq.2.1 _ _ _ hI0 (fun b hb => hD' b (.inr hb))
  have hlt0 : ∀ b, (b = bn ∨ b = bs ∨ D b) ∨ Wr b → b < W.heap.size := by
    rintro b ((rfl | rfl | h) | h)
    · exact hbn
    · exact hbs
    · exact Nat.lt_of_lt_of_le (hseq.1 b (.inl h)) hW
    · exact Nat.lt_of_lt_of_le (hseq.1 b (.inr h)) hW
  by_cases hn0 : n < 1
  · have HJ : Hid (Stab W.heap.size Wr J ∧ J 0 m W) := ⟨hJ, h0⟩
    have HI : Hid (It (some 0) W ∧ ItStab Wr It) := ⟨hI0W, hseq.2.1⟩
    clear hseq hJ hJx hR hY h0 hI0 hI0W hs hn hD'
    gi_wp2
    have hM : Mod Nil0 W ((W.alloc (.cells #[.func yf ya yc] 25)).alloc (.cells #[.int .i64 n] 3)) := ((Mod.refl _ _).alloc _).alloc _
    refine ⟨_, results_none rfl _ _ _, ⟨_, rfl⟩, m, fun b hb => .inl hb, hM.mono (fun _ _ hf => hf.elim), .inl ⟨?_, ?_⟩⟩
    · have e : n.toNat = 0 := by omega
      rw [e]
      exact HJ.out.1 _ _ _ _ _ HJ.out.2 hM (fun _ hf => hf.elim) (fun _ hf => hf.elim)
    · have e : n.toNat = 0 := by omega
      simp only [FIt]
      rw [if_pos (by omega), e]
      exact HI.out.2 _ _ _ HI.out.1 (fun b hb => hM.block b (hlt0 b (.inr hb)) (fun hf => hf))
  have hn1' : 1 ≤ n := by omega
  gi_wp2_with (gi_at_call 58; refine (calls_FW (ro := none) (each_int f cap _)).mono ?_; rintro e B ⟨rfl, rfl⟩)
  have hyb : ((W.alloc (.cells #[.func yf ya yc] 25)).alloc (.cells #[.int .i64 n] 3)).heap[W.heap.size]? = some (.cells #[.func yf ya yc] 25 (0, 0)) :=
    (Below.heap_alloc _ _ _ (by simp)).trans (World.alloc_heap_new W _)
  have hnb : ((W.alloc (.cells #[.func yf ya yc] 25)).alloc (.cells #[.int .i64 n] 3)).heap[W.heap.size + 1]? = some (.cells #[.int .i64 n] 3 (0, 0)) := by
    have := World.alloc_heap_new (W.alloc (.cells #[.func yf ya yc] 25)) (.cells #[.int .i64 n] 3); rwa [World.size_alloc] at this
  have hM1 : Mod Nil0 W ((W.alloc (.cells #[.func yf ya yc] 25)).alloc (.cells #[.int .i64 n] 3)) := ((Mod.refl _ _).alloc _).alloc _
  have hsz1 : ((W.alloc (.cells #[.func yf ya yc] 25)).alloc (.cells #[.int .i64 n] 3)).heap.size = W.heap.size + 2 := by simp
  generalize hW1 : (W.alloc (.cells #[.func yf ya yc] 25)).alloc (.cells #[.int .i64 n] 3) = W1 at hyb hnb hM1 hsz1 ⊢
  clear hW1
  have hseq1 : SeqSpec Try.prog (.func (.func f) #[] cap) D Wr It (xs.map fun x => #[Value.int .i64 x]) W1 := (hseq.later hW (fun b hb => hD' b (hb.elim (fun h => .inl (.inr (.inr h))) .inr))).mod hM1 (fun _ _ hf => hf)
  have hm0 : ∀ b, m b → b < W.heap.size ∧ ¬ (b = bn ∨ b = bs ∨ D b) ∧ ¬ Wr b := hR 0 m W h0
  have hPr := FBox.stab W.heap.size 25 3 (.func yf ya yc) n
  have hpvW : ∀ b, (b = W.heap.size ∨ b = W.heap.size + 1) → W.heap.size ≤ b := fun b hb => by omega
  refine wpIn_range0 rfl hseq1 (JIn J (fun b => b = W.heap.size ∨ b = W.heap.size + 1) (fun j A => (j : Int) < n ∧ FBox W.heap.size 25 3 (.func yf ya yc) n j A) (fun j => j) m Wr W)
    (FX n xs.length (JIn Jx (fun b => b = W.heap.size ∨ b = W.heap.size + 1) (fun _ _ => True) (fun j => j) m Wr W) (JIn J (fun b => b = W.heap.size ∨ b = W.heap.size + 1) (fun _ _ => True) (fun j => j) m Wr W))
    (fun b => m b ∨ (b = W.heap.size ∨ b = W.heap.size + 1)) ?hps (JIn.stab hJ (hPr.const _) W1.heap.size (by omega))
    (FX.stab (JIn.stab hJx (fun _ _ _ _ _ _ _ => trivial) W1.heap.size (by omega)) (JIn.stab hJ (fun _ _ _ _ _ _ _ => trivial) W1.heap.size (by omega))) (JIn.rng hR (fun b hb => .inr (.inr hb)) hpvW hlt0) ?h0 ?hround ?hdone ?hstop
  case hps => intro x hxm; simp only [List.mem_map] at hxm; obtain ⟨v, _, rfl⟩ := hxm; rfl
  case h0 =>
    exact ⟨m, rfl, hJ 0 m W W1 Nil0 h0 hM1 (fun _ hf => hf.elim) (fun _ hf => hf.elim), ⟨by omega, hyb, by simpa using hnb⟩, fun b hb => .inl hb, fun b hb => ⟨by omega, fun h => by have := (hm0 _ h).1; omega⟩, hM1.mono (fun _ _ hf => hf.elim)⟩
  case hround =>
    intro l k hk M A hl hlA hml hJk
    have hk' : k < xs.length := by simpa using hk
    simp only [List.getElem_map]
    simp only [List.zip_toArray, List.zip_cons_cons, List.zip_nil_right, List.foldl_toArray', List.foldl_cons, List.foldl_nil]
    clear hJk hml
    gi_wp2
    refine ⟨Mod.refl _ _, fun A2 hA2 hrec hJ2 => ?_⟩
    have hs2 := hA2.size
    obtain ⟨m1, rfl, hj, ⟨hkn, hy2, hl2⟩, hm1, hpv, hmod⟩ := hJ2
    have hsA : W.heap.size ≤ A2.heap.size := hmod.size
    have hyA : A2.cell? ⟨W.heap.size, 0, none⟩ = some (.func yf ya yc) := cell_of_one' hy2
    have hlc : A2.cell? ⟨W.heap.size + 1, 0, none⟩ = some (.int .i64 (n - k)) := cell_of_one' hl2
    have hlf : A2.frozen? ⟨W.heap.size + 1, 0, none⟩ = false := free_of_one' hl2
    have hMst : Mod (fun b => m1 b ∨ (b = W.heap.size ∨ b = W.heap.size + 1)) A2 (A2.setCell ⟨W.heap.size + 1, 0, none⟩ (.int .i64 (n - k - 1))) := (Mod.refl _ _).setCell ⟨W.heap.size + 1, 0, none⟩ _ (fun _ => .inr (.inr rfl))
    have hMst' : Mod (· = W.heap.size + 1) A2 (A2.setCell ⟨W.heap.size + 1, 0, none⟩ (.int .i64 (n - k - 1))) := (Mod.refl _ _).setCell ⟨W.heap.size + 1, 0, none⟩ _ (fun _ => rfl)
    have hl3 : (A2.setCell ⟨W.heap.size + 1, 0, none⟩ (.int .i64 (n - k - 1))).heap[W.heap.size + 1]? = some (.cells #[.int .i64 (n - k - 1)] 3 (0, 0)) := Boxed.set (B := W.heap.size + 1) _ hl2
    have hy3 : (A2.setCell ⟨W.heap.size + 1, 0, none⟩ (.int .i64 (n - k - 1))).heap[W.heap.size]? = some (.cells #[.func yf ya yc] 25 (0, 0)) := hMst'.heap hy2 (by omega)
    have hyB := cell_of_one' hy3
    have hj3 : J k m1 (A2.setCell ⟨W.heap.size + 1, 0, none⟩ (.int .i64 (n - k - 1))) := hJ _ _ _ _ _ hj hMst' (fun b hb h => (hpv b (.inr hb)).2 h) (fun b hb h => by omega)
    have hyC := hY k (by rw [List.length_map, List.length_take]; omega) m1 _ hj3 (Nat.le_trans hsA hMst.size)
    simp only [List.getElem_map, List.getElem_take] at hyC
    have HY : Hid (CallV Try.prog (.func yf ya yc) #[Value.int .i64 xs[k]] (A2.setCell ⟨W.heap.size + 1, 0, none⟩ (.int .i64 (n - k - 1))) (YPost J Jx k m1 (A2.setCell ⟨W.heap.size + 1, 0, none⟩ (.int .i64 (n - k - 1))))) := hyC
    have H3 : Hid (Mod (fun b => m1 b ∨ (b = W.heap.size ∨ b = W.heap.size + 1)) A2 (A2.setCell ⟨W.heap.size + 1, 0, none⟩ (.int .i64 (n - k - 1))) ∧ (A2.setCell ⟨W.heap.size + 1, 0, none⟩ (.int .i64 (n - k - 1))).heap[W.heap.size + 1]? = some (.cells #[.int .i64 (n - k - 1)] 3 (0, 0)) ∧ (A2.setCell ⟨W.heap.size + 1, 0, none⟩ (.int .i64 (n - k - 1))).heap[W.heap.size]? = some (.cells #[.func yf ya yc] 25 (0, 0))) := ⟨hMst, hl3, hy3⟩
    have b1 : 1 ≤ n - k := by omega
    have b2 : n - k ≤ 9223372036854775807 := by omega
    clear hY hyC hJ hJx hR hseq hseq1 hD' hPr hMst hMst' hl3 hy3 hj3 hy2 hl2 hI0 hI0W hs hn
    by_cases hlast : n - k = 1
    all_goals
      have ht : (decide (n - (k : Int) - 1 = 0) = true ↔ n - k = 1) := by simp; omega
    · have hz : ((n - (k : Int) - 1 : Int) == 0) = true := by rw [beq_iff_eq]; omega
      have HL : Hid ((k : Int) + 1 = n) := by show (k : Int) + 1 = n; omega
      clear hlast ht
      gi_wp2_with (refine wpListIn_callV (v := .func yf ya yc) (argl := [Value.int .i64 xs[k]]) rfl rfl rfl (HY.out.mono ?_); rintro e C ⟨m2, hm2a, hm2b, (⟨rfl, hj2⟩ | ⟨rfl, hj2⟩)⟩ <;> simp only [afterCall] <;> have hlC := cell_of_one' (hm2a.heap H3.out.2.1 (hpv _ (.inr rfl)).2))
      all_goals
        have hAC : Mod (fun b => m1 b ∨ (b = W.heap.size ∨ b = W.heap.size + 1)) A2 C := H3.out.1.trans' hm2a (fun b _ h => .inl h)
        have hsub : ∀ b, m2 b → m1 b ∨ A2.heap.size ≤ b := fun b h => (hm2b b h).imp id (fun h => Nat.le_trans H3.out.1.size h)
        have hend := HL.out
      · exact ⟨_, hAC, fun b hb => hb.elim (fun h => (hsub b h).imp .inl (fun h => by omega)) (fun h => .inl (.inr h)), rfl, .inr ⟨by push_cast; omega, JIn.next hm1 hpv hmod hAC hpvW hsub hj2 trivial⟩⟩
      · exact ⟨_, hAC, fun b hb => hb.elim (fun h => (hsub b h).imp .inl (fun h => by omega)) (fun h => .inl (.inr h)), rfl, .inl ⟨by push_cast; omega, JIn.next hm1 hpv hmod hAC hpvW hsub hj2 trivial⟩⟩
    · have hz : ((n - (k : Int) - 1 : Int) == 0) = false := by rw [beq_eq_false_iff_ne]; omega
      have HL : Hid ((k : Int) + 1 < n) := by show (k : Int) + 1 < n; omega
      clear hlast ht
      gi_wp2_with (refine wpListIn_callV (v := .func yf ya yc) (argl := [Value.int .i64 xs[k]]) rfl rfl rfl (HY.out.mono ?_); rintro e C ⟨m2, hm2a, hm2b, (⟨rfl, hj2⟩ | ⟨rfl, hj2⟩)⟩ <;> simp only [afterCall] <;> have hlC := cell_of_one' (hm2a.heap H3.out.2.1 (hpv _ (.inr rfl)).2))
      all_goals
        have hAC : Mod (fun b => m1 b ∨ (b = W.heap.size ∨ b = W.heap.size + 1)) A2 C := H3.out.1.trans' hm2a (fun b _ h => .inl h)
        have hsub : ∀ b, m2 b → m1 b ∨ A2.heap.size ≤ b := fun b h => (hm2b b h).imp id (fun h => Nat.le_trans H3.out.1.size h)
        have hend := HL.out
      · refine ⟨_, hAC, fun b hb => hb.elim (fun h => (hsub b h).imp .inl (fun h => by omega)) (fun h => .inl (.inr h)), JIn.next hm1 hpv hmod hAC hpvW hsub hj2 ⟨by push_cast; omega, hm2a.heap H3.out.2.2 (hpv _ (.inl rfl)).2, ?_⟩⟩
        rw [hm2a.heap H3.out.2.1 (hpv _ (.inr rfl)).2, show n - ((k + 1 : Nat) : Int) = n - k - 1 by push_cast; omega]
      · exact ⟨_, hAC, fun b hb => hb.elim (fun h => (hsub b h).imp .inl (fun h => by omega)) (fun h => .inl (.inr h)), rfl, .inl ⟨by push_cast; omega, JIn.next hm1 hpv hmod hAC hpvW hsub hj2 trivial⟩⟩
  case hdone =>
    rintro d m' B hd hdB hmd ⟨hsub, hmod, ⟨m1, rfl, hj, ⟨hT, hyB⟩, hm1, hpv, hmodW⟩, hit⟩
    gi_wp2
    rw [List.length_map] at hT hj
    refine leaves_one hdB ⟨_, results_none rfl _ _ _, ⟨_, rfl⟩, m1, hm1, hmodW.putObj _ _ (fun h => by omega), .inl ⟨?_, ?_⟩⟩
    · have := hJ _ _ _ _ _ hj ((Mod.refl (· = d) B).putObj d (.deferred none) (fun _ => rfl)) (fun b hb h => hmd (by subst hb; exact .inl h)) (fun b hb h => by subst hb; omega)
      rw [show min n.toNat xs.length = xs.length by omega]; exact this
    · simp only [FIt]
      rw [if_neg (by omega)]
      exact hseq.2.1 _ _ _ hit (fun b h => World.putObj_heap_other (by have := hlt0 b (.inr h); omega))
  case hstop =>
    rintro d m' B c j hj' hd hdB hmd ⟨hsub, hmod, ⟨rfl, hcase⟩, hit⟩
    gi_wp2
    have hjl : j < xs.length := by simpa using hj'
    have hit' := fun (hne : True) => hseq.2.1 _ B (B.putObj d (.deferred none)) hit (fun b h => World.putObj_heap_other (by have := hlt0 b (.inr h); omega))
    rcases hcase with ⟨hjT, m1, rfl, hj, hyB, hm1, hpv, hmodW⟩ | ⟨hjT, m1, rfl, hj, hyB, hm1, hpv, hmodW⟩
    · refine leaves_one hdB ⟨_, results_none rfl _ _ _, ⟨_, rfl⟩, m1, hm1, hmodW.putObj _ _ (fun h => by omega), .inr ⟨j, by omega, ?_, hit' trivial⟩⟩
      exact hJx _ _ _ _ _ hj ((Mod.refl (· = d) B).putObj d (.deferred none) (fun _ => rfl)) (fun b hb h => hmd (by subst hb; exact .inl h)) (fun b hb h => by subst hb; omega)
    · have e : n.toNat = j + 1 := by omega
      refine leaves_one hdB ⟨_, results_none rfl _ _ _, ⟨_, rfl⟩, m1, hm1, hmodW.putObj _ _ (fun h => by omega), .inl ⟨?_, ?_⟩⟩
      · rw [show min n.toNat xs.length = j + 1 by omega]
        exact hJ _ _ _ _ _ hj ((Mod.refl (· = d) B).putObj d (.deferred none) (fun _ => rfl)) (fun b hb h => hmd (by subst hb; exact .inl h)) (fun b hb h => by subst hb; omega)
      · simp only [FIt]
        rw [if_pos (by omega), e]
        exact hit' trivial
end Go.Proofs.Ytobioeehfigmcaa
