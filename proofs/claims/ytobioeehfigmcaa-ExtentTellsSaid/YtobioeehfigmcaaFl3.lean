/- Map of a sequence: pure functions. No condition. -/
import Derived.Test.YtobioeehfigmcaaFl2
import Derived.Test.YtobioeehfigmcaaDraw
set_option linter.unusedSimpArgs false
set_option linter.unusedVariables false
set_option maxRecDepth 100000
namespace Go.Proofs.Ytobioeehfigmcaa
open Go Go.RowKit Go.Shelf
attribute [local go_sem] Oper.semAt_some

/-- A function value that answers res of its one argument and turns nothing old. -/
def FunG {α : Type} (P : Program) (fv : Value) (D : Nat → Prop) (enc res : α → Value) (dom : α → Prop) (w : World) : Prop :=
  (∀ b, D b → b < w.heap.size) ∧ ∀ (W : World) (x : α), w.heap.size ≤ W.heap.size → (∀ b, D b → W.heap[b]? = w.heap[b]?) → dom x →
    CallV P fv #[enc x] W fun e B => e = .returned (res x) ∧ Mod Nil0 W B

theorem eqNil_map_int_int (fn : Fn) (a c : Array Value) (w : World) : (binOp .eql 47 (.func fn a c) .nilFunc).run Try.prog w = .ok (.bool false) w := by kernel_rfl
attribute [local go_sem] eqNil_map_int_int
attribute [local go_sem] eqNil_seq_int
set_option maxHeartbeats 1000000 in
theorem map1_int_int (bs bi f fi : Nat) (cap capi : Array Value) (D Wr Di : Nat → Prop) (It : Option Nat → World → Prop) (xs : List Int) (res : Int → Value) (w : World)
    (hs : w.cell? ⟨bs, 0, none⟩ = some (.func (.func f) #[] cap)) (hi : w.cell? ⟨bi, 0, none⟩ = some (.func (.func fi) #[] capi)) (hsW : ¬ Wr bs) (hiW : ¬ Wr bi)
    (hseq : SeqSpec Try.prog (.func (.func f) #[] cap) D Wr It (xs.map fun x => #[Value.int .i64 x]) w) (hfun : FunG Try.prog (.func (.func fi) #[] capi) Di (Value.int .i64) res (· ∈ xs) w) (hDi : ∀ b, Di b → ¬ Wr b) (hDW : ∀ b, D b → ¬ Wr b) :
    SeqSpec Try.prog (.func (.func 68) #[] #[.pointer (some ⟨bi, 0, none⟩), .pointer (some ⟨bs, 0, none⟩)]) (fun b => b = bs ∨ b = bi ∨ D b ∨ Di b) Wr It (xs.map fun x => #[res x]) w := by
  refine ⟨?_, ?_, ?_⟩
  · rintro b ((rfl | rfl | h | h) | h)
    · exact World.block_lt_of_cell? w _ hs
    · exact World.block_lt_of_cell? w _ hi
    · exact hseq.1 b (.inl h)
    · exact hfun.1 b h
    · exact hseq.1 b (.inr h)
  · exact hseq.2.1
  intro yf ya yc J Jx m W hW hD' hJ hJx hR hY h0
  refine .fn _ _ _ _ _ (enters_of Try.func68 (by kernel_rfl) rfl) (calls_of_FW (ro := none) (n := 0) ?_)
  refine callsIn_of_wp_marks Try.func68 rfl trivial ?_
  simp only [Try.ntmps68, List.size_toArray, List.length_cons, List.length_nil, Nat.reduceAdd, Nat.reduceSub, Array.replicate_succ, Array.replicate_zero, List.push_toArray, List.append_toArray, List.nil_append, List.cons_append]
  have hsW1 : W.cell? ⟨bs, 0, none⟩ = some (.func (.func f) #[] cap) := (World.cell?_of_block (hD' bs (.inl (.inl rfl)))).trans hs
  have hiW1 : W.cell? ⟨bi, 0, none⟩ = some (.func (.func fi) #[] capi) := (World.cell?_of_block (hD' bi (.inl (.inr (.inl rfl))))).trans hi
  have hbs : bs < W.heap.size := World.block_lt_of_cell? W _ hsW1
  have hbi : bi < W.heap.size := World.block_lt_of_cell? W _ hiW1
  gi_wp2_with (gi_at_call 58; refine (calls_FW (ro := none) (each_int f cap _)).mono ?_; rintro e B ⟨rfl, rfl⟩)
  have hyb := World.alloc_heap_new W (.cells #[.func yf ya yc] 25)
  have hM1 : Mod Nil0 W (W.alloc (.cells #[.func yf ya yc] 25)) := (Mod.refl _ _).alloc _
  have hsz1 : (W.alloc (.cells #[.func yf ya yc] 25)).heap.size = W.heap.size + 1 := by simp
  generalize hW1 : W.alloc (.cells #[.func yf ya yc] 25) = W1 at hyb hM1 hsz1 ⊢
  clear hW1
  have hlt0 : ∀ b, (b = bs ∨ b = bi ∨ D b ∨ Di b) ∨ Wr b → b < W.heap.size := by
    rintro b ((rfl | rfl | h | h) | h)
    · exact hbs
    · exact hbi
    · exact Nat.lt_of_lt_of_le (hseq.1 b (.inl h)) hW
    · exact Nat.lt_of_lt_of_le (hfun.1 b h) hW
    · exact Nat.lt_of_lt_of_le (hseq.1 b (.inr h)) hW
  have hseq1 : SeqSpec Try.prog (.func (.func f) #[] cap) D Wr It (xs.map fun x => #[Value.int .i64 x]) W1 := (hseq.later hW (fun b hb => hD' b (hb.elim (fun h => .inl (.inr (.inr (.inl h)))) .inr))).mod hM1 (fun _ _ hf => hf)
  have hm0 : ∀ b, m b → b < W.heap.size ∧ ¬ (b = bs ∨ b = bi ∨ D b ∨ Di b) ∧ ¬ Wr b := hR 0 m W h0
  have hPr := YBox.stab W.heap.size 25 (.func yf ya yc)
  refine wpIn_range0 rfl hseq1 (JIn J (· = W.heap.size) (YBox W.heap.size 25 (.func yf ya yc)) (fun j => j) m Wr W)
    (fun c j M A => c = .ret ∧ JIn Jx (· = W.heap.size) (YBox W.heap.size 25 (.func yf ya yc)) (fun j => j) m Wr W j M A)
    (fun b => m b ∨ b = W.heap.size) ?hps (JIn.stab hJ hPr W1.heap.size (by omega)) (fun c => (JIn.stab hJx hPr W1.heap.size (by omega)).const _) (JIn.rng hR (fun b hb => .inr (.inr (.inl hb))) (fun b hb => Nat.le_of_eq hb.symm) hlt0) ?h0 ?hround ?hdone ?hstop
  case hps => intro x hxm; simp only [List.mem_map] at hxm; obtain ⟨v, _, rfl⟩ := hxm; rfl
  case h0 =>
    exact ⟨m, rfl, hJ 0 m W W1 Nil0 h0 hM1 (fun _ hf => hf.elim) (fun _ hf => hf.elim), hyb, fun b hb => .inl hb, fun b hb => by subst hb; exact ⟨by omega, fun h => by have := (hm0 _ h).1; omega⟩, hM1.mono (fun _ _ hf => hf.elim)⟩
  case hround =>
    intro l k hk M A hl hlA hml hJk
    have hk' : k < xs.length := by simpa using hk
    simp only [List.getElem_map]
    simp only [List.zip_toArray, List.zip_cons_cons, List.zip_nil_right, List.foldl_toArray', List.foldl_cons, List.foldl_nil]
    gi_wp2
    refine ⟨Mod.refl _ _, fun A2 hA2 hrec hJ2 => ?_⟩
    have hs2 := hA2.size
    clear hJk hml
    obtain ⟨m1, rfl, hj, hybA, hm1, hpv, hmod⟩ := hJ2
    have hy2 := hybA
    have hsA : W.heap.size ≤ A2.heap.size := hmod.size
    have hnm : ∀ b, b < W.heap.size → (b = bs ∨ b = bi ∨ D b ∨ Di b) → ¬ (m b ∨ Wr b) := fun b hb h h2 => h2.elim (fun h2 => (hm0 b h2).2.1 h) (fun h2 => by
      rcases h with rfl | rfl | h | h
      · exact hsW h2
      · exact hiW h2
      · exact hDW b h h2
      · exact hDi b h h2)
    have hiA : A2.cell? ⟨bi, 0, none⟩ = some (.func (.func fi) #[] capi) := hmod.cell hiW1 (hnm bi hbi (.inr (.inl rfl)))
    have hyA : A2.cell? ⟨W.heap.size, 0, none⟩ = some (.func yf ya yc) := cell_of_one' hy2
    have hcallp := hfun.2 A2 xs[k] (by omega) (fun b hb => (hmod.block b (hlt0 b (.inl (.inr (.inr (.inr hb))))) (hnm b (hlt0 b (.inl (.inr (.inr (.inr hb))))) (.inr (.inr (.inr hb))))).trans (hD' b (.inl (.inr (.inr (.inr hb)))))) (List.getElem_mem hk')
    have hyC := fun (B : World) (hB : Mod Nil0 A2 B) => hY k (by simpa using hk') m1 B (hJ _ _ _ _ _ hj hB (fun _ hf => hf.elim) (fun _ hf => hf.elim)) (Nat.le_trans hsA hB.size)
    simp only [List.getElem_map] at hyC
    have HY : Hid (∀ (B : World) (hB : Mod Nil0 A2 B), CallV Try.prog (.func yf ya yc) #[res xs[k]] B (YPost J Jx k m1 B)) := hyC
    have HF : Hid (∀ (B : World) (hB : Mod Nil0 A2 B), CallV Try.prog (.func (.func fi) #[] capi) #[Value.int .i64 xs[k]] B fun e C => e = .returned (res xs[k]) ∧ Mod Nil0 B C) := fun B hB =>
      hfun.2 B xs[k] (Nat.le_trans (by omega) hB.size) (fun b hb => (hB.block b (Nat.lt_of_lt_of_le (hlt0 b (.inl (.inr (.inr (.inr hb))))) hsA) (fun hf => hf)).trans ((hmod.block b (hlt0 b (.inl (.inr (.inr (.inr hb))))) (hnm b (hlt0 b (.inl (.inr (.inr (.inr hb))))) (.inr (.inr (.inr hb))))).trans (hD' b (.inl (.inr (.inr (.inr hb))))))) (List.getElem_mem hk')
    have hmm : (Try.prog).follows .mixedOrders = true := by kernel_rfl
    have HI0 : (A2.drew).cell? ⟨W.heap.size, 0, none⟩ = some (.func yf ya yc) ∧ (A2.drew).cell? ⟨bi, 0, none⟩ = some (.func (.func fi) #[] capi) := ⟨hyA, hiA⟩
    have hbm : ¬ m1 bi := fun h => (hm1 bi h).elim (fun h => (hm0 bi h).2.1 (.inr (.inl rfl))) (fun h => by omega)
    clear hY hyC hJ hJx hR hseq hseq1 hD' hfun hPr hnm hcallp
    gi_wp2
    refine wpIn_regionI (fun w' => w'.cell? ⟨W.heap.size, 0, none⟩ = some (.func yf ya yc) ∧ w'.cell? ⟨bi, 0, none⟩ = some (.func (.func fi) #[] capi)) hmm ?_
    refine takeI (i := 0) (v := .func yf ya yc) rfl (by kernel_rfl) (by kernel_rfl) (by kernel_rfl) (fun _ _ _ h => h) (.inl ⟨rfl, fun w' hI => ?_⟩) HI0 ?_
    · have := hI.1
      go_simp
    refine takeI (i := 1) (v := .func (.func fi) #[] capi) rfl (by kernel_rfl) (by kernel_rfl) (by kernel_rfl) (fun _ _ _ h => h) (.inl ⟨rfl, fun w' hI => ?_⟩) HI0 ?_
    · have := hI.2
      go_simp
    refine takeI (i := 2) (v := Value.int .i64 xs[k]) rfl (by kernel_rfl) (by kernel_rfl) (by kernel_rfl) (fun _ _ _ h => h) (.inl ⟨rfl, fun w' hI => by go_simp⟩) HI0 ?_
    refine callI (i := 3) (by kernel_rfl) rfl rfl (v := .func (.func fi) #[] capi) (argl := [Value.int .i64 xs[k]]) rfl rfl ((HF.out _ ((Mod.refl _ _).drew)).mono ?_)
    rintro e B ⟨rfl, hB0⟩
    have hB : Mod Nil0 A2 B := ((Mod.refl _ _).drew).trans hB0
    refine ⟨⟨hB.cell hyA (fun hf => hf), hB.cell hiA (fun hf => hf)⟩, ?_⟩
    refine callI (i := 4) (by kernel_rfl) rfl rfl (v := .func yf ya yc) (argl := [res xs[k]]) rfl rfl ((HY.out _ hB).mono ?_)
    rintro e C ⟨m2, hm2a, hm2b, h2⟩
    have hAC : Mod (fun b => m1 b ∨ b = W.heap.size) A2 C := (hB.mono (fun _ _ hf => hf.elim)).trans' hm2a (fun b _ h => .inl h)
    have hsub : ∀ b, m2 b → m1 b ∨ A2.heap.size ≤ b := fun b h => (hm2b b h).imp id (fun h => Nat.le_trans hB.size h)
    have hyC := hm2a.heap (hB.heap hybA (fun hf => hf)) (hpv _ rfl).2
    rcases h2 with ⟨rfl, hj2⟩ | ⟨rfl, hj2⟩
    all_goals
      have HIC : C.cell? ⟨W.heap.size, 0, none⟩ = some (.func yf ya yc) ∧ C.cell? ⟨bi, 0, none⟩ = some (.func (.func fi) #[] capi) := ⟨cell_of_one' hyC, hm2a.cell (hB.cell hiA (fun hf => hf)) (fun h => hbm (h : m1 bi))⟩
      refine ⟨HIC, ?_⟩
    · refine nextI (i := 5) (v := .bool false) (by kernel_rfl) rfl (by kernel_rfl) (.inl ⟨rfl, fun w' hI => by go_simp⟩) HIC ?_
      refine doneI (by kernel_rfl) ?_ _
      simp only [Exit.then, Act.put, List.setIfInBounds_toArray, List.set_cons_succ, List.set_cons_zero]
      gi_wp2
      exact ⟨_, hAC, fun b hb => hb.elim (fun h => (hsub b h).imp .inl (fun h => by omega)) (fun h => .inl (.inr h)),
          JIn.next hm1 hpv hmod hAC (fun b hb => Nat.le_of_eq hb.symm) hsub hj2 hyC⟩
    · refine nextI (i := 5) (v := .bool true) (by kernel_rfl) rfl (by kernel_rfl) (.inl ⟨rfl, fun w' hI => by go_simp⟩) HIC ?_
      refine doneI (by kernel_rfl) ?_ _
      simp only [Exit.then, Act.put, List.setIfInBounds_toArray, List.set_cons_succ, List.set_cons_zero]
      gi_wp2
      exact ⟨_, hAC, fun b hb => hb.elim (fun h => (hsub b h).imp .inl (fun h => by omega)) (fun h => .inl (.inr h)), rfl,
          JIn.next hm1 hpv hmod hAC (fun b hb => Nat.le_of_eq hb.symm) hsub hj2 hyC⟩
  case hdone =>
    rintro d m' B hd hdB hmd ⟨hsub, hmod, ⟨m1, rfl, hj, hyB, hm1, hpv, hmodW⟩, hit⟩
    gi_wp2
    rw [List.length_map] at hj
    refine leaves_one hdB ⟨_, results_none rfl _ _ _, ⟨_, rfl⟩, m1, hm1, hmodW.putObj _ _ (fun h => by omega), .inl ⟨?_, ?_⟩⟩
    · exact hJ _ _ _ _ _ hj ((Mod.refl (· = d) B).putObj d (.deferred none) (fun _ => rfl)) (fun b hb h => hmd (by subst hb; exact .inl h)) (fun b hb h => by subst hb; omega)
    · exact hseq.2.1 _ _ _ hit (fun b h => World.putObj_heap_other (by have := hlt0 b (.inr h); omega))
  case hstop =>
    rintro d m' B c j hj' hd hdB hmd ⟨hsub, hmod, ⟨rfl, m1, rfl, hj, hyB, hm1, hpv, hmodW⟩, hit⟩
    gi_wp2
    refine leaves_one hdB ⟨_, results_none rfl _ _ _, ⟨_, rfl⟩, m1, hm1, hmodW.putObj _ _ (fun h => by omega), .inr ⟨j, by simpa using hj', ?_, ?_⟩⟩
    · exact hJx _ _ _ _ _ hj ((Mod.refl (· = d) B).putObj d (.deferred none) (fun _ => rfl)) (fun b hb h => hmd (by subst hb; exact .inl h)) (fun b hb h => by subst hb; omega)
    · exact hseq.2.1 _ _ _ hit (fun b h => World.putObj_heap_other (by have := hlt0 b (.inr h); omega))
end Go.Proofs.Ytobioeehfigmcaa
