/- First, Until of a sequence. No condition. -/
import Derived.Test.YtobioeehfigmcaaIt2
set_option linter.unusedSimpArgs false
set_option linter.unusedVariables false
set_option maxRecDepth 100000
namespace Go.Proofs.Ytobioeehfigmcaa
open Go Go.RowKit Go.Shelf
attribute [local go_sem] Oper.semAt_some

theorem PrStab.const {pv : Nat → Prop} {Pr : Nat → World → Prop} (q : Nat → Prop) (h : PrStab pv Pr) : PrStab pv (fun j A => q j ∧ Pr j A) := fun j A B S hj hm hS => ⟨hj.1, h j A B S hj.2 hm hS⟩
def UIt {α : Type} (p : α → Bool) (xs : List α) (It : Option Nat → World → Prop) : Option Nat → World → Prop
  | none, W => if (xs.takeWhile fun x => !p x).length < xs.length then It (some ((xs.takeWhile fun x => !p x).length + 1)) W else It none W
  | some k, W => It (some k) W
/-- A round said 'no more': the consumer did (X), or an element was so (Y). -/
def UX {α : Type} (p : α → Bool) (xs : List α) (X Y : Nat → (Nat → Prop) → World → Prop) (c : Code) (j : Nat) (M : Nat → Prop) (A : World) : Prop :=
  c = .ret ∧ ((j - 1 < (xs.takeWhile fun x => !p x).length ∧ X j M A) ∨ ((∃ h : j - 1 < xs.length, p xs[j - 1] = true ∧ j - 1 = (xs.takeWhile fun x => !p x).length) ∧ Y j M A))
theorem UX.stab {α : Type} {p : α → Bool} {xs : List α} {n0 : Nat} {Wr : Nat → Prop} {X Y : Nat → (Nat → Prop) → World → Prop} (hX : Stab n0 Wr X) (hY : Stab n0 Wr Y) (c : Code) : Stab n0 Wr (UX p xs X Y c) := by
  rintro k m A B S ⟨hc, h⟩ hm h1 h2
  exact ⟨hc, h.imp (fun h => ⟨h.1, hX _ _ _ _ _ h.2 hm h1 h2⟩) (fun h => ⟨h.1, hY _ _ _ _ _ h.2 hm h1 h2⟩)⟩
theorem tw_le {α : Type} (p : α → Bool) : ∀ xs : List α, (xs.takeWhile fun x => !p x).length ≤ xs.length
  | [] => by simp
  | x :: xs => by rw [List.takeWhile_cons]; split <;> simp; exact tw_le p xs
theorem tw_stop {α : Type} {p : α → Bool} : ∀ {xs : List α} {k : Nat} (h : k < xs.length), p xs[k] = true → k ≤ (xs.takeWhile fun x => !p x).length → k = (xs.takeWhile fun x => !p x).length
  | x :: xs, 0, h, hp, hk => by simp only [List.getElem_cons_zero] at hp; simp [List.takeWhile_cons, hp]
  | x :: xs, k + 1, h, hp, hk => by
    rw [List.takeWhile_cons] at hk ⊢
    split at hk
    · rename_i hx
      rw [if_pos hx]
      simp only [List.length_cons] at hk ⊢
      rw [← tw_stop (xs := xs) (k := k) (by simpa using h) (by simpa using hp) (by omega)]
    · simp at hk
theorem tw_go {α : Type} {p : α → Bool} : ∀ {xs : List α} {k : Nat} (h : k < xs.length), p xs[k] = false → k ≤ (xs.takeWhile fun x => !p x).length → ∃ h2 : k < (xs.takeWhile fun x => !p x).length, (xs.takeWhile fun x => !p x)[k] = xs[k]
  | x :: xs, 0, h, hp, hk => by simp only [List.getElem_cons_zero] at hp; simp [List.takeWhile_cons, hp]
  | x :: xs, k + 1, h, hp, hk => by
    by_cases hx : (!p x) = true
    · have e : (x :: xs).takeWhile (fun x => !p x) = x :: xs.takeWhile (fun x => !p x) := by rw [List.takeWhile_cons, if_pos hx]
      obtain ⟨h2, hg⟩ := tw_go (xs := xs) (k := k) (by simpa using h) (by simpa using hp) (by rw [e] at hk; simpa using hk)
      refine ⟨by rw [e]; simpa using h2, ?_⟩
      simp only [e, List.getElem_cons_succ]
      exact hg
    · rw [List.takeWhile_cons, if_neg hx] at hk
      simp at hk

set_option maxHeartbeats 1000000 in
theorem until1_int (bs bi f fi : Nat) (cap capi : Array Value) (D Wr Di : Nat → Prop) (It : Option Nat → World → Prop) (xs : List Int) (p : Int → Bool) (w : World)
    (hs : w.cell? ⟨bs, 0, none⟩ = some (.func (.func f) #[] cap)) (hi : w.cell? ⟨bi, 0, none⟩ = some (.func (.func fi) #[] capi)) (hsW : ¬ Wr bs) (hiW : ¬ Wr bi)
    (hseq : SeqSpec Try.prog (.func (.func f) #[] cap) D Wr It (xs.map fun x => #[Value.int .i64 x]) w) (hfun : PredV Try.prog (.func (.func fi) #[] capi) Di (Value.int .i64) p (· ∈ xs) w) (hDi : ∀ b, Di b → ¬ Wr b) (hDW : ∀ b, D b → ¬ Wr b) :
    SeqSpec Try.prog (.func (.func 61) #[] #[.pointer (some ⟨bs, 0, none⟩), .pointer (some ⟨bi, 0, none⟩)]) (fun b => b = bs ∨ b = bi ∨ D b ∨ Di b) Wr (UIt p xs It) ((xs.takeWhile fun x => !p x).map fun x => #[Value.int .i64 x]) w := by
  refine ⟨?_, ?_, ?_⟩
  · rintro b ((rfl | rfl | h | h) | h)
    · exact World.block_lt_of_cell? w _ hs
    · exact World.block_lt_of_cell? w _ hi
    · exact hseq.1 b (.inl h)
    · exact hfun.1 b h
    · exact hseq.1 b (.inr h)
  · rintro (_ | k) A B h hS
    · simp only [UIt] at h ⊢
      split at h
      · rw [if_pos ‹_›]; exact hseq.2.1 _ _ _ h hS
      · rw [if_neg ‹_›]; exact hseq.2.1 _ _ _ h hS
    · exact hseq.2.1 _ _ _ h hS
  intro yf ya yc J Jx m W hW hD' hJ hJx hR hY h0
  refine .fn _ _ _ _ _ (enters_of Try.func61 (by kernel_rfl) rfl) (calls_of_FW (ro := none) (n := 0) ?_)
  refine callsIn_of_wp_marks Try.func61 rfl trivial ?_
  simp only [Try.ntmps61, List.size_toArray, List.length_cons, List.length_nil, Nat.reduceAdd, Nat.reduceSub, Array.replicate_succ, Array.replicate_zero, List.push_toArray, List.append_toArray, List.nil_append, List.cons_append]
  have hsW1 : W.cell? ⟨bs, 0, none⟩ = some (.func (.func f) #[] cap) := (World.cell?_of_block (hD' bs (.inl (.inl rfl)))).trans hs
  have hiW1 : W.cell? ⟨bi, 0, none⟩ = some (.func (.func fi) #[] capi) := (World.cell?_of_block (hD' bi (.inl (.inr (.inl rfl))))).trans hi
  have hbs : bs < W.heap.size := World.block_lt_of_cell? W _ hsW1
  have hbi : bi < W.heap.size := World.block_lt_of_cell? W _ hiW1
  gi_wp2_with (gi_at_call 58; refine (calls_FW (ro := none) (each_int f cap _)).mono ?_; rintro e B ⟨rfl, rfl⟩)
  have hyb := World.alloc_heap_new W (.cells #[.func yf ya yc] 25)
  have hM1 : Mod Nil0 W (W.alloc (.cells #[.func yf ya yc] 25)) := (Mod.refl _ _).alloc _
  have hsz1 : (W.alloc (.cells #[.func yf ya yc] 25)).heap.size = W.heap.size + 1 := by simp
  generalize hW1 : W.alloc (.cells #[.func yf ya yc] 25) = W1 at hyb hM1 hsz1 ⊢
  clear hW1
  have hlt0 : ∀ b, (b = bs ∨ b = bi ∨ D b ∨ Di b) ∨ Wr b → b < W.heap.size := by
    rintro b ((rfl | rfl | h | h) | h)
    · exact hbs
    · exact hbi
    · exact Nat.lt_of_lt_of_le (hseq.1 b (.inl h)) hW
    · exact Nat.lt_of_lt_of_le (hfun.1 b h) hW
    · exact Nat.lt_of_lt_of_le (hseq.1 b (.inr h)) hW
  have hseq1 : SeqSpec Try.prog (.func (.func f) #[] cap) D Wr It (xs.map fun x => #[Value.int .i64 x]) W1 := (hseq.later hW (fun b hb => hD' b (hb.elim (fun h => .inl (.inr (.inr (.inl h)))) .inr))).mod hM1 (fun _ _ hf => hf)
  have hm0 : ∀ b, m b → b < W.heap.size ∧ ¬ (b = bs ∨ b = bi ∨ D b ∨ Di b) ∧ ¬ Wr b := hR 0 m W h0
  have hPr := YBox.stab W.heap.size 25 (.func yf ya yc)
  refine wpIn_range0 rfl hseq1 (JIn J (· = W.heap.size) (fun j A => j ≤ (xs.takeWhile fun x => !p x).length ∧ YBox W.heap.size 25 (.func yf ya yc) j A) (fun j => j) m Wr W)
    (UX p xs (JIn Jx (· = W.heap.size) (YBox W.heap.size 25 (.func yf ya yc)) (fun j => j) m Wr W) (JIn J (· = W.heap.size) (YBox W.heap.size 25 (.func yf ya yc)) (fun j => j - 1) m Wr W))
    (fun b => m b ∨ b = W.heap.size) ?hps (JIn.stab hJ (hPr.const _) W1.heap.size (by omega)) (UX.stab (JIn.stab hJx hPr W1.heap.size (by omega)) (JIn.stab hJ hPr W1.heap.size (by omega))) (JIn.rng hR (fun b hb => .inr (.inr (.inl hb))) (fun b hb => Nat.le_of_eq hb.symm) hlt0) ?h0 ?hround ?hdone ?hstop
  case hps => intro x hxm; simp only [List.mem_map] at hxm; obtain ⟨v, _, rfl⟩ := hxm; rfl
  case h0 =>
    exact ⟨m, rfl, hJ 0 m W W1 Nil0 h0 hM1 (fun _ hf => hf.elim) (fun _ hf => hf.elim), ⟨Nat.zero_le _, hyb⟩, fun b hb => .inl hb, fun b hb => by subst hb; exact ⟨by omega, fun h => by have := (hm0 _ h).1; omega⟩, hM1.mono (fun _ _ hf => hf.elim)⟩
  case hround =>
    intro l k hk M A hl hlA hml hJk
    have hk' : k < xs.length := by simpa using hk
    simp only [List.getElem_map]
    simp only [List.zip_toArray, List.zip_cons_cons, List.zip_nil_right, List.foldl_toArray', List.foldl_cons, List.foldl_nil]
    gi_wp2
    refine ⟨Mod.refl _ _, fun A2 hA2 hrec hJ2 => ?_⟩
    have hs2 := hA2.size
    clear hJk hml
    obtain ⟨m1, rfl, hj, hybA0, hm1, hpv, hmod⟩ := hJ2
    have hy2 := hybA0.2
    have hsA : W.heap.size ≤ A2.heap.size := hmod.size
    have hnm : ∀ b, b < W.heap.size → (b = bs ∨ b = bi ∨ D b ∨ Di b) → ¬ (m b ∨ Wr b) := fun b hb h h2 => h2.elim (fun h2 => (hm0 b h2).2.1 h) (fun h2 => by
      rcases h with rfl | rfl | h | h
      · exact hsW h2
      · exact hiW h2
      · exact hDW b h h2
      · exact hDi b h h2)
    have hiA : A2.cell? ⟨bi, 0, none⟩ = some (.func (.func fi) #[] capi) := hmod.cell hiW1 (hnm bi hbi (.inr (.inl rfl)))
    have hyA : A2.cell? ⟨W.heap.size, 0, none⟩ = some (.func yf ya yc) := cell_of_one' hy2
    have hcallp := hfun.2 A2 xs[k] (by omega) (fun b hb => (hmod.block b (hlt0 b (.inl (.inr (.inr (.inr hb))))) (hnm b (hlt0 b (.inl (.inr (.inr (.inr hb))))) (.inr (.inr (.inr hb))))).trans (hD' b (.inl (.inr (.inr (.inr hb)))))) (List.getElem_mem hk')
    obtain ⟨hkT, hybA⟩ := hybA0
    by_cases hp : p xs[k] = true
    · have HT : Hid (k = (xs.takeWhile fun x => !p x).length) := tw_stop hk' hp hkT
      have HP : Hid (p xs[k] = true) := hp
      have HJ : Hid (Stab W.heap.size Wr J) := hJ
      rw [hp] at hcallp
      clear hY hp hJ hJx hR hseq hseq1 hD' hfun hPr hnm hkT
      gi_wp2_with (first
        | (gi_at_call 62; refine (calls_FW (ro := none) (so_int fi capi _)).mono ?_; rintro e B ⟨rfl, rfl⟩)
        | (refine wpListIn_callV (v := .func (.func fi) #[] capi) (argl := [Value.int .i64 xs[k]]) rfl rfl rfl (hcallp.mono ?_); clear hcallp; rintro e B ⟨rfl, hB⟩; simp only [afterCall]))
      have hAC : Mod (fun b => m1 b ∨ b = W.heap.size) A2 B := hB.mono (fun _ _ hf => hf.elim)
      refine ⟨_, hAC, fun b hb => .inl hb, rfl, .inr ⟨⟨hk', HP.out, HT.out⟩, ?_⟩⟩
      exact JIn.next hm1 hpv hmod hAC (fun b hb => Nat.le_of_eq hb.symm) (fun b h => .inl h) (HJ.out _ _ _ _ _ hj hB (fun _ hf => hf.elim) (fun _ hf => hf.elim)) (hB.heap hybA (fun hf => hf))
    · have hp' : p xs[k] = false := by simpa using hp
      obtain ⟨hk2, hg2⟩ := tw_go hk' hp' hkT
      rw [hp'] at hcallp
      have hyC := fun (B : World) (hB : Mod Nil0 A2 B) => hY k (by simpa using hk2) m1 B (hJ _ _ _ _ _ hj hB (fun _ hf => hf.elim) (fun _ hf => hf.elim)) (Nat.le_trans hsA hB.size)
      simp only [List.getElem_map, hg2] at hyC
      have HY : Hid (∀ (B : World) (hB : Mod Nil0 A2 B), CallV Try.prog (.func yf ya yc) #[Value.int .i64 xs[k]] B (YPost J Jx k m1 B)) := hyC
      clear hY hyC hp hp' hJ hJx hR hseq hseq1 hD' hfun hPr hnm hkT hg2
      gi_wp2_with (first
        | (gi_at_call 62; refine (calls_FW (ro := none) (so_int fi capi _)).mono ?_; rintro e B ⟨rfl, rfl⟩)
        | (refine wpListIn_callV (v := .func (.func fi) #[] capi) (argl := [Value.int .i64 xs[k]]) rfl rfl rfl (hcallp.mono ?_); clear hcallp; rintro e B ⟨rfl, hB⟩; simp only [afterCall]; have hyB : B.cell? ⟨W.heap.size, 0, none⟩ = some (.func yf ya yc) := hB.cell hyA (fun hf => hf))
        | (refine wpListIn_callV (v := .func yf ya yc) (argl := [Value.int .i64 xs[k]]) rfl rfl rfl ((HY.out _ hB).mono ?_); rintro e C ⟨m2, hm2a, hm2b, (⟨rfl, hj2⟩ | ⟨rfl, hj2⟩)⟩ <;> simp only [afterCall]))
      all_goals
        have hAC : Mod (fun b => m1 b ∨ b = W.heap.size) A2 C := (hB.mono (fun _ _ hf => hf.elim)).trans' hm2a (fun b _ h => .inl h)
        have hsub : ∀ b, m2 b → m1 b ∨ A2.heap.size ≤ b := fun b h => (hm2b b h).imp id (fun h => Nat.le_trans hB.size h)
        have hyC := hm2a.heap (hB.heap hybA (fun hf => hf)) (hpv _ rfl).2
      · exact ⟨_, hAC, fun b hb => hb.elim (fun h => (hsub b h).imp .inl (fun h => by omega)) (fun h => .inl (.inr h)),
          JIn.next hm1 hpv hmod hAC (fun b hb => Nat.le_of_eq hb.symm) hsub hj2 ⟨by omega, hyC⟩⟩
      · exact ⟨_, hAC, fun b hb => hb.elim (fun h => (hsub b h).imp .inl (fun h => by omega)) (fun h => .inl (.inr h)), rfl, .inl ⟨hk2,
          JIn.next hm1 hpv hmod hAC (fun b hb => Nat.le_of_eq hb.symm) hsub hj2 hyC⟩⟩
  case hdone =>
    rintro d m' B hd hdB hmd ⟨hsub, hmod, ⟨m1, rfl, hj, ⟨hT, hyB⟩, hm1, hpv, hmodW⟩, hit⟩
    gi_wp2
    rw [List.length_map] at hT hj
    have hTl := tw_le p xs
    have e : (xs.takeWhile fun x => !p x).length = xs.length := by omega
    refine leaves_one hdB ⟨_, results_none rfl _ _ _, ⟨_, rfl⟩, m1, hm1, hmodW.putObj _ _ (fun h => by omega), .inl ⟨?_, ?_⟩⟩
    · have := hJ _ _ _ _ _ hj ((Mod.refl (· = d) B).putObj d (.deferred none) (fun _ => rfl)) (fun b hb h => hmd (by subst hb; exact .inl h)) (fun b hb h => by subst hb; omega)
      rw [e]; exact this
    · simp only [UIt]
      rw [if_neg (by omega)]
      exact hseq.2.1 _ _ _ hit (fun b h => World.putObj_heap_other (by have := hlt0 b (.inr h); omega))
  case hstop =>
    rintro d m' B c j hj' hd hdB hmd ⟨hsub, hmod, ⟨rfl, hcase⟩, hit⟩
    gi_wp2
    have hit' := fun (hne : True) => hseq.2.1 _ B (B.putObj d (.deferred none)) hit (fun b h => World.putObj_heap_other (by have := hlt0 b (.inr h); omega))
    rcases hcase with ⟨hjT, m1, rfl, hj, hyB, hm1, hpv, hmodW⟩ | ⟨⟨hjx, hpj, hjT⟩, m1, rfl, hj, hyB, hm1, hpv, hmodW⟩
    · refine leaves_one hdB ⟨_, results_none rfl _ _ _, ⟨_, rfl⟩, m1, hm1, hmodW.putObj _ _ (fun h => by omega), .inr ⟨j, by simpa using hjT, ?_, hit' trivial⟩⟩
      exact hJx _ _ _ _ _ hj ((Mod.refl (· = d) B).putObj d (.deferred none) (fun _ => rfl)) (fun b hb h => hmd (by subst hb; exact .inl h)) (fun b hb h => by subst hb; omega)
    · refine leaves_one hdB ⟨_, results_none rfl _ _ _, ⟨_, rfl⟩, m1, hm1, hmodW.putObj _ _ (fun h => by omega), .inl ⟨?_, ?_⟩⟩
      · rw [← hjT]
        exact hJ _ _ _ _ _ hj ((Mod.refl (· = d) B).putObj d (.deferred none) (fun _ => rfl)) (fun b hb h => hmd (by subst hb; exact .inl h)) (fun b hb h => by subst hb; omega)
      · simp only [UIt]
        rw [if_pos (by omega), ← hjT]
        exact hit' trivial

end Go.Proofs.Ytobioeehfigmcaa
