/- Join's maker, and Fold over numbers. No condition but the slices' bounds. -/
import Derived.Test.YtobioeehfigmcaaJn
set_option linter.unusedSimpArgs false
set_option linter.unusedVariables false
set_option maxRecDepth 100000
namespace Go.Proofs.Ytobioeehfigmcaa
open Go Go.RowKit Go.Shelf
attribute [local go_sem] Oper.semAt_some eqNil_seq_int eqNil_is_int

theorem info_seqint : (Try.prog.info? 28).map (fun i => (i.zero, i.size, i.bytes)) = some (some .nilFunc, 1, 8) := by kernel_rfl
set_option maxHeartbeats 1000000 in
theorem clone_seqs (A : Option Addr) (c : Nat) (D : Nat → Prop) (xs : List Value) (w : World) (hr : Row1 (fun v : Value => v) D w A xs) (h1 : ∀ v ∈ xs, v.oneCell' = true) (hbig : xs.length * 8 ≤ 140737488355328) :
    Calls Try.prog 69 #[.slice A xs.length c] w (RSlice (fun v : Value => v) xs Nil0 w (fun _ => True)) := by
  have q22 : ∀ (w : World) (a : Option Addr) (n c n' c' : Nat), (binOp .eql 100 (.slice a n c) (.slice none n' c')).run Try.prog w = .ok (.bool a.isNone) w := fun w a n c n' c' => Lib.run_eql_slice_nil w _ _ a n c n' c' Try.underlying100
  have H : Hid (Row1 (fun v : Value => v) D w A xs) := hr
  have hlen := hr.1
  clear hr
  cases A with
  | none =>
    have h0 : xs = [] := by
      cases xs with
      | nil => rfl
      | cons x xs => obtain ⟨_, _, h, _⟩ := H.out.2 (by simp); cases h
    subst h0
    go_enter Try.func69, Try.ntmps69
    go_wp2
    go_ret
    exact ⟨none, 0, rfl, Mod.refl _ _, Row1.nil _ _ _ _, trivial⟩
  | some ad =>
    obtain ⟨i0, hi, hzz⟩ := Option.map_eq_some_iff.1 info_seqint
    simp only [Prod.mk.injEq] at hzz
    obtain ⟨hz0, hz1, hz2⟩ := hzz
    have HC : Hid (∀ (j : Nat) (u : Value), xs[j]? = some u → w.cell? (ad.add j) = some u) := by
      intro j u hu
      obtain ⟨b, o, e, _, hc⟩ := H.out.2 (by have := (List.getElem?_eq_some_iff.1 hu).1; omega)
      cases e
      rw [Addr.add_lit]
      exact hc j u hu
    have H1 : Hid (∀ v ∈ xs, v.oneCell' = true) := h1
    clear H hlen h1
    go_enter Try.func69, Try.ntmps69
    go_wp2_with (at_builtin; refine wpList_append_own _ rfl _ _ 100 rfl w.heap.size 28 i0 .nilFunc 1 8 Try.underlying100 hi hz0 hz1 hz2 rfl (by decide) _ _ _ rfl (World.ownsRow_made w #[] 0 (Nat.le_refl _) (Nat.zero_le _) (by simp)) ad xs.length c xs rfl ?qc1 ?qc2 ?qc3 ?qc4 ?qc5 ?qc6 ?_)
    case qc1 => simp
    case qc2 =>
      intro j u hj
      exact Lib.cell?_alloc_some _ (HC.out j u hj)
    case qc3 => intro u hu; exact H1.out u hu
    case qc4 => rw [Nat.zero_add]; unfold maxLen; omega
    case qc5 => rw [Nat.zero_add]; exact hbig
    case qc6 => simp
    intro v' w1 hown hgrow hnil
    go_wp2
    go_ret
    have hm : Mod Nil0 w w1 := ((Mod.refl _ w).alloc _).grown hgrow (by intro k hk h; simp [Value.ownBlock] at hk; omega)
    obtain ⟨A', c', rfl, hr⟩ := Row1.of_own (enc := fun v : Value => v) (xs := xs) (by simpa using hown) (by omega)
    exact ⟨A', c', rfl, hm, hr.mono (fun b hb => ⟨hb.1, hb.2.1⟩), trivial⟩

set_option maxHeartbeats 1000000 in
theorem joinS_int (A : Option Addr) (c : Nat) (Dv D : Nat → Prop) (vs : List Value) (xss : List (List Int)) (w : World) (hlen2 : vs.length = xss.length) (hr : Row1 (fun v : Value => v) Dv w A vs)
    (h1 : ∀ v ∈ vs, v.oneCell' = true) (hbig : vs.length * 8 ≤ 140737488355328) (hD : ∀ b, D b → b < w.heap.size) (hel : ∀ i (h : i < vs.length) (h' : i < xss.length), JEl w vs[i] D xss[i]) :
    Calls Try.prog 23 #[.slice A vs.length c] w (SeqOut Try.prog D Nil0 (fun _ _ => True) (xss.flatten.map fun x => #[.int .i64 x]) w) := by
  have hM0 : Mod Nil0 w (w.alloc (.cells #[.slice A vs.length c] 100)) := (Mod.refl _ _).alloc _
  have hbx := World.alloc_heap_new w (.cells #[.slice A vs.length c] 100)
  have hsz : (w.alloc (.cells #[.slice A vs.length c] 100)).heap.size = w.heap.size + 1 := by simp
  have hcl := clone_seqs A c (fun b => Dv b ∧ b < w.heap.size) vs (w.alloc (.cells #[.slice A vs.length c] 100)) (hr.lt.keep (fun b hb => hM0.block b hb.2 (fun hf => hf))) h1 hbig
  have HE : Hid (∀ i (h : i < vs.length) (h' : i < xss.length), JEl w vs[i] D xss[i]) := hel
  have HC : Hid (Calls Try.prog 69 #[.slice A vs.length c] (w.alloc (.cells #[.slice A vs.length c] 100)) (RSlice (fun v : Value => v) vs Nil0 (w.alloc (.cells #[.slice A vs.length c] 100)) (fun _ => True))) := hcl
  have HL : Hid (vs.length = xss.length) := hlen2
  have HX : Hid (Mod Nil0 w (w.alloc (.cells #[.slice A vs.length c] 100)) ∧ (w.alloc (.cells #[.slice A vs.length c] 100)).heap[w.heap.size]? = some (.cells #[.slice A vs.length c] 100 (0, 0)) ∧ (w.alloc (.cells #[.slice A vs.length c] 100)).heap.size = w.heap.size + 1) := ⟨hM0, hbx, hsz⟩
  clear hr hel h1 hcl hM0 hlen2 hbx hsz
  go_enter Try.func23, Try.ntmps23
  go_wp2_with (go_at_call 69; refine HC.out.mono ?_; clear HC; rintro e B ⟨A', c', rfl, hm, hr, -⟩; obtain ⟨hM0, hbx, hsz⟩ := HX.out; have hbB := hm.heap hbx (fun hf => hf); have hcB := cell_of_one' hbB; have hfB := free_of_one' hbB)
  go_ret
  have hsB := hm.size
  have hMB : Mod Nil0 w (B.setCell ⟨w.heap.size, 0, none⟩ (.slice A' vs.length c')) := (hM0.trans' hm (fun _ _ hf => hf.elim)).setCell ⟨w.heap.size, 0, none⟩ _ (fun h => by simp at h)
  have hne : ∀ b, b ≠ w.heap.size → (B.setCell ⟨w.heap.size, 0, none⟩ (.slice A' vs.length c')).heap[b]? = B.heap[b]? := fun b hb => Below.heap_setCell _ _ _ _ hb
  have hszB : (B.setCell ⟨w.heap.size, 0, none⟩ (.slice A' vs.length c')).heap.size = B.heap.size := by simp [World.setCell]
  refine ⟨_, _, rfl, hMB, (join1_int w.heap.size c' A' (fun b => (w.alloc (.cells #[.slice A vs.length c] 100)).heap.size ≤ b ∧ b < B.heap.size) D vs xss _ HL.out (cell_of_one' (Boxed.set (B := w.heap.size) _ hbB)) (hr.keep (fun b hb => hne b (by omega))) (fun b hb => by omega) (fun b hb => by have := hD b hb; omega) ?_).monoD ?_ ?_⟩
  · intro i h h'
    rcases HE.out i h h' with ⟨f, cap, e, hs⟩ | h
    · exact .inl ⟨f, cap, e, hs.mod hMB (fun _ _ hf => hf)⟩
    · exact .inr h
  · rintro b (rfl | h | h)
    · exact .inr ⟨Nat.le_refl _, by omega⟩
    · exact .inr (by omega)
    · exact .inl h
  · rintro b (h | h)
    · have := hD b h; omega
    · exact h.2

/-- The running value in its box. -/
def FoldJ {β : Type} (encb : β → Value) (t : TypeId) (acc : Nat → β) (bx : Nat) (Wr : Nat → Prop) (w : World) (k : Nat) (m : Nat → Prop) (A : World) : Prop :=
  m = (· = bx) ∧ A.heap[bx]? = some (.cells #[encb (acc k)] t (0, 0)) ∧ Mod (fun b => b = bx ∨ Wr b) w A
theorem FoldJ.stab {β : Type} {encb : β → Value} {t : TypeId} {acc : Nat → β} {bx : Nat} {Wr : Nat → Prop} {w : World} (n0 : Nat) (hn : w.heap.size ≤ n0) : Stab n0 Wr (FoldJ encb t acc bx Wr w) := by
  rintro k m A B S ⟨rfl, h, hm⟩ hAB hS hS2
  exact ⟨rfl, hAB.heap h (fun h => hS _ h rfl), hm.trans' hAB (fun b hlt h => .inr (hS2 b h (by omega)))⟩
theorem eqNil_fold_int (fn : Fn) (a c : Array Value) (w : World) : (binOp .eql 93 (.func fn a c) .nilFunc).run Try.prog w = .ok (.bool false) w := by kernel_rfl
attribute [local go_sem] eqNil_fold_int
set_option maxHeartbeats 1000000 in
theorem fold_int (f fi : Nat) (cap capi : Array Value) (D Wr Di : Nat → Prop) (It : Option Nat → World → Prop) (xs : List Int) (z : Int) (acc : Nat → Int) (w : World) (h0 : acc 0 = z)
    (hseq : SeqSpec Try.prog (.func (.func f) #[] cap) D Wr It (xs.map fun x => #[Value.int .i64 x]) w) (hDi : ∀ b, Di b → b < w.heap.size ∧ ¬ Wr b)
    (hfun : ∀ k (h : k < xs.length) (W : World), w.heap.size ≤ W.heap.size → (∀ b, Di b → W.heap[b]? = w.heap[b]?) → CallV Try.prog (.func (.func fi) #[] capi) #[.int .i64 (acc k), Value.int .i64 xs[k]] W fun e B => e = .returned (.int .i64 (acc (k + 1))) ∧ Mod Nil0 W B) :
    Calls Try.prog 55 #[.func (.func f) #[] cap, .int .i64 z, .func (.func fi) #[] capi] w fun e B => e = .returned (.int .i64 (acc xs.length)) ∧ Mod Wr w B ∧ It none B := by
  have hWr := fun b (h : Wr b) => hseq.1 b (.inr h)
  refine calls_of_FW (ro := none) (n := 0) ?_
  refine callsIn_of_wp_marks Try.func55 rfl trivial ?_
  simp only [Try.ntmps55, List.size_toArray, List.length_cons, List.length_nil, Nat.reduceAdd, Nat.reduceSub, Array.replicate_succ, Array.replicate_zero, List.push_toArray, List.append_toArray, List.nil_append, List.cons_append]
  have HF : Hid (∀ k (h : k < xs.length) (W : World), w.heap.size ≤ W.heap.size → (∀ b, Di b → W.heap[b]? = w.heap[b]?) → CallV Try.prog (.func (.func fi) #[] capi) #[.int .i64 (acc k), Value.int .i64 xs[k]] W fun e B => e = .returned (.int .i64 (acc (k + 1))) ∧ Mod Nil0 W B) := hfun
  have HD : Hid ((∀ b, Di b → b < w.heap.size ∧ ¬ Wr b) ∧ (∀ b, Wr b → b < w.heap.size)) := ⟨hDi, hWr⟩
  have HZ : Hid (acc 0 = z) := h0
  clear hfun hDi hWr h0
  gi_wp2_with (gi_at_call 58; refine (calls_FW (ro := none) (each_int f cap _)).mono ?_; rintro e B ⟨rfl, rfl⟩)
  have hM1 := two_mod w (.cells #[.int .i64 z] 3) (.cells #[.func (.func fi) #[] capi] 93)
  have hsz1 := two_size w (.cells #[.int .i64 z] 3) (.cells #[.func (.func fi) #[] capi] 93)
  have hb0 : ((w.alloc (.cells #[.int .i64 z] 3)).alloc (.cells #[.func (.func fi) #[] capi] 93)).heap[w.heap.size]? = some (.cells #[.int .i64 z] 3 (0, 0)) := (Below.heap_alloc _ _ _ (by simp)).trans (World.alloc_heap_new w _)
  have hb1 := (two_cells w (.int .i64 z) (.func (.func fi) #[] capi) 3 93).2
  generalize hW1 : (w.alloc (.cells #[.int .i64 z] 3)).alloc (.cells #[.func (.func fi) #[] capi] 93) = W1 at hM1 hsz1 hb0 hb1 ⊢
  clear hW1
  have hseq1 := hseq.mod hM1 (fun _ _ hf => hf)
  have hb1' : Hid (W1.cell? ⟨w.heap.size + 1, 0, none⟩ = some (.func (.func fi) #[] capi)) := hb1
  have HM1 : Hid (Mod Nil0 w W1) := hM1
  refine wpIn_range0 rfl hseq1 (FoldJ (Value.int .i64) 3 acc w.heap.size Wr W1) (fun _ _ _ _ => False) (· = w.heap.size) ?hps (FoldJ.stab W1.heap.size (Nat.le_refl _)) (fun c _ _ _ _ _ h => h.elim) ?hrng ⟨rfl, by rw [HZ.out]; exact hb0, Mod.refl _ _⟩ ?hround ?hdone ?hstop
  case hrng =>
    rintro k m A ⟨rfl, h, hm⟩ b rfl
    exact ⟨(Array.getElem?_eq_some_iff.1 h).1, fun h => by have := hseq.1 _ (.inl h); omega, fun h => by have := hseq.1 _ (.inr h); omega⟩
  case hps => intro x hxm; simp only [List.mem_map] at hxm; obtain ⟨v, _, rfl⟩ := hxm; rfl
  case hstop => rintro d m' B c k hk hd hdB hmd ⟨_, _, hf, _⟩; exact hf.elim
  case hround =>
    intro l k hk M A hl hlA hml hJk
    have hk' : k < xs.length := by simpa using hk
    simp only [List.getElem_map]
    simp only [List.zip_toArray, List.zip_cons_cons, List.zip_nil_right, List.foldl_toArray', List.foldl_cons, List.foldl_nil]
    clear hJk hml hseq hseq1 hM1 hb0
    gi_wp2
    refine ⟨Mod.refl _ _, fun A2 hA2 hrec hJ2 => ?_⟩
    have hs2 := hA2.size
    obtain ⟨rfl, hbA, hmodA⟩ := hJ2
    have hcA := cell_of_one' hbA
    have hsA := hmodA.size
    have hbxl := (Array.getElem?_eq_some_iff.1 hbA).1
    have hfA : A2.cell? ⟨w.heap.size + 1, 0, none⟩ = some (.func (.func fi) #[] capi) := hmodA.cell hb1'.out (fun h => h.elim (fun h => by have : w.heap.size + 1 = w.heap.size := h; omega) (fun h => by have : w.heap.size + 1 < w.heap.size := HD.out.2 _ h; omega))
    have HC : Hid (CallV Try.prog (.func (.func fi) #[] capi) #[.int .i64 (acc k), Value.int .i64 xs[k]] A2 fun e B => e = .returned (.int .i64 (acc (k + 1))) ∧ Mod Nil0 A2 B) :=
      HF.out k hk' A2 (by omega) (fun b hb => (hmodA.block b (by have := HD.out.1 b hb; omega) (fun h => h.elim (fun h => by have := HD.out.1 b hb; omega) (HD.out.1 b hb).2)).trans (HM1.out.block b (HD.out.1 b hb).1 (fun hf => hf)))
    have HB : Hid (A2.heap[w.heap.size]? = some (.cells #[.int .i64 (acc k)] 3 (0, 0)) ∧ Mod (fun b => b = w.heap.size ∨ Wr b) W1 A2) := ⟨hbA, hmodA⟩
    clear hbA hmodA hb1
    gi_wp2_with (refine wpListIn_callV (v := .func (.func fi) #[] capi) (argl := [.int .i64 (acc k), Value.int .i64 xs[k]]) rfl rfl rfl (HC.out.mono ?_); rintro e B ⟨rfl, hB⟩; simp only [afterCall]; have hbB := hB.heap HB.out.1 (fun hf => hf); have hcB := cell_of_one' hbB; have hfB := free_of_one' hbB)
    have hMA : Mod (· = w.heap.size) A2 (B.setCell ⟨w.heap.size, 0, none⟩ (.int .i64 (acc (k + 1)))) := (hB.mono (fun _ _ hf => hf.elim)).setCell ⟨w.heap.size, 0, none⟩ _ (fun _ => rfl)
    exact ⟨(· = w.heap.size), hMA, fun b hb => .inl hb, rfl, Boxed.set (B := w.heap.size) _ hbB, HB.out.2.trans' hMA (fun b hb h => .inl h)⟩
  case hdone =>
    rintro d m' B hd hdB hmd ⟨hsub, hmod, ⟨rfl, hbB, hmodB⟩, hit⟩
    rw [List.length_map] at hbB
    have hcB := cell_of_one' hbB
    have hbxl := (Array.getElem?_eq_some_iff.1 hbB).1
    have HI : Hid (It none B ∧ Mod (fun b => b = w.heap.size ∨ Wr b) W1 B ∧ ItStab Wr It) := ⟨hit, hmodB, hseq.2.1⟩
    clear hseq hseq1 hit hmodB hbB hb1 hb0 hM1 hmod
    gi_wp2
    refine leaves_one hdB ⟨_, results_tmp rfl _ _ _, rfl, ?_, ?_⟩
    · exact (HM1.out.mono (T := Wr) (fun _ _ hf => hf.elim)).trans' (HI.out.2.1.putObj d _ (fun h => by omega)) (fun b hb h => h.elim (fun h => by omega) id)
    · exact HI.out.2.2 _ _ _ HI.out.1 (fun b h => World.putObj_heap_other (by have := HD.out.2 _ h; omega))
end Go.Proofs.Ytobioeehfigmcaa
