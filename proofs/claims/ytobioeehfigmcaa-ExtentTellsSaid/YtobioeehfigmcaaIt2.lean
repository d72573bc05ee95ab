/- Clone, Of, AppendSeq, Collect, List, Find at one-cell element types. No condition but the slices' bounds. -/
import Derived.Test.YtobioeehfigmcaaIt
import Derived.Test.YtobioeehfigmcaaApp
set_option linter.unusedSimpArgs false
set_option linter.unusedVariables false
set_option maxRecDepth 100000
namespace Go.Proofs.Ytobioeehfigmcaa
open Go Go.RowKit Go.Shelf
attribute [local go_sem] Oper.semAt_some

theorem info_int : (Try.prog.info? 3).map (fun i => (i.zero, i.size, i.bytes)) = some (some (Value.int .i64 (0 : Int)), 1, 8) := by kernel_rfl
set_option maxHeartbeats 1000000 in
theorem clone_int (A : Option Addr) (c : Nat) (D : Nat → Prop) (xs : List Int) (w : World) (hr : Row1 (Value.int .i64) D w A xs) (hbig : xs.length * 8 ≤ 140737488355328) :
    Calls Try.prog 67 #[.slice A xs.length c] w (RSlice (Value.int .i64) xs Nil0 w (fun _ => True)) := by
  have q22 : ∀ (w : World) (a : Option Addr) (n c n' c' : Nat), (binOp .eql 22 (.slice a n c) (.slice none n' c')).run Try.prog w = .ok (.bool a.isNone) w := fun w a n c n' c' => Lib.run_eql_slice_nil w _ _ a n c n' c' Try.underlying22
  have H : Hid (Row1 (Value.int .i64) D w A xs) := hr
  have hlen := hr.1
  clear hr
  cases A with
  | none =>
    have h0 : xs = [] := by
      cases xs with
      | nil => rfl
      | cons x xs => obtain ⟨_, _, h, _⟩ := H.out.2 (by simp); cases h
    subst h0
    go_enter Try.func67, Try.ntmps67
    go_wp2
    go_ret
    exact ⟨none, 0, rfl, Mod.refl _ _, Row1.nil _ _ _ _, trivial⟩
  | some ad =>
    obtain ⟨i0, hi, hzz⟩ := Option.map_eq_some_iff.1 info_int
    simp only [Prod.mk.injEq] at hzz
    obtain ⟨hz0, hz1, hz2⟩ := hzz
    have HC : Hid (∀ j u, (xs.map (Value.int .i64))[j]? = some u → w.cell? (ad.add j) = some u) := by
      intro j u hu
      rw [List.getElem?_map] at hu
      obtain ⟨x, hx, rfl⟩ := Option.map_eq_some_iff.1 hu
      obtain ⟨b, o, e, _, hc⟩ := H.out.2 (by have := (List.getElem?_eq_some_iff.1 hx).1; omega)
      cases e
      rw [Addr.add_lit]
      exact hc j x hx
    clear H hlen
    go_enter Try.func67, Try.ntmps67
    go_wp2_with (at_builtin; refine wpList_append_own _ rfl _ _ 22 rfl w.heap.size 3 i0 (Value.int .i64 (0 : Int)) 1 8 Try.underlying22 hi hz0 hz1 hz2 rfl (by decide) _ _ _ rfl (World.ownsRow_made w #[] 0 (Nat.le_refl _) (Nat.zero_le _) (by simp)) ad xs.length c (xs.map (Value.int .i64)) rfl ?qc1 ?qc2 ?qc3 ?qc4 ?qc5 ?qc6 ?_)
    case qc1 => simp
    case qc2 =>
      intro j u hj
      exact Lib.cell?_alloc_some _ (HC.out j u hj)
    case qc3 => intro u hu; simp only [List.mem_map] at hu; obtain ⟨x, _, rfl⟩ := hu; rfl
    case qc4 => rw [Nat.zero_add]; unfold maxLen; omega
    case qc5 => rw [Nat.zero_add]; exact hbig
    case qc6 => simp
    intro v' w1 hown hgrow hnil
    go_wp2
    go_ret
    have hm : Mod Nil0 w w1 := ((Mod.refl _ w).alloc _).grown hgrow (by intro k hk h; simp [Value.ownBlock] at hk; omega)
    obtain ⟨A', c', rfl, hr⟩ := Row1.of_own (xs := xs) (by simpa using hown) (by omega)
    exact ⟨A', c', rfl, hm, hr.mono (fun b hb => ⟨hb.1, hb.2.1⟩), trivial⟩

/-- A sequence of a list: new memory alone. -/
theorem of_int (A : Option Addr) (c : Nat) (D : Nat → Prop) (xs : List Int) (w : World) (hr : Row1 (Value.int .i64) D w A xs) (hbig : xs.length * 8 ≤ 140737488355328) :
    Calls Try.prog 19 #[.slice A xs.length c] w fun e B => ∃ f cap D', e = .returned (.func (.func f) #[] cap) ∧ Mod Nil0 w B ∧ (∀ b, D' b → w.heap.size ≤ b) ∧
      IsSeq Try.prog (.func (.func f) #[] cap) D' (xs.map fun x => #[Value.int .i64 x]) B := by
  have hcl := clone_int A c D xs w hr hbig
  clear hr
  go_enter Try.func19, Try.ntmps19
  go_wp2_with (first
    | (go_at_call 67; refine hcl.mono ?_; clear hcl; rintro e B ⟨A', c', rfl, hm, hr, _⟩)
    | (go_at_call 66; refine (vals_int _ _ _ _).mono ?_; rintro e C ⟨rfl, rfl⟩))
  go_ret
  have hb := World.alloc_heap_new B (.cells #[.slice A' xs.length c'] 22)
  refine ⟨_, _, _, rfl, hm.alloc _, ?_, values1_int B.heap.size c' A' (fun b => w.heap.size ≤ b ∧ b < B.heap.size) xs _ (cell_of_one' hb) (hr.keep (fun b hb => Below.heap_alloc _ _ _ hb.2)) (fun b hb => by simp; omega)⟩
  rintro b (rfl | h)
  · exact hm.size
  · exact h.1

theorem info_str : (Try.prog.info? 9).map (fun i => (i.zero, i.size, i.bytes)) = some (some (Value.string (⟨#[]⟩ : ByteArray)), 1, 16) := by kernel_rfl
set_option maxHeartbeats 1000000 in
theorem clone_str (A : Option Addr) (c : Nat) (D : Nat → Prop) (xs : List ByteArray) (w : World) (hr : Row1 (Value.string) D w A xs) (hbig : xs.length * 16 ≤ 140737488355328) :
    Calls Try.prog 107 #[.slice A xs.length c] w (RSlice (Value.string) xs Nil0 w (fun _ => True)) := by
  have q22 : ∀ (w : World) (a : Option Addr) (n c n' c' : Nat), (binOp .eql 138 (.slice a n c) (.slice none n' c')).run Try.prog w = .ok (.bool a.isNone) w := fun w a n c n' c' => Lib.run_eql_slice_nil w _ _ a n c n' c' Try.underlying138
  have H : Hid (Row1 (Value.string) D w A xs) := hr
  have hlen := hr.1
  clear hr
  cases A with
  | none =>
    have h0 : xs = [] := by
      cases xs with
      | nil => rfl
      | cons x xs => obtain ⟨_, _, h, _⟩ := H.out.2 (by simp); cases h
    subst h0
    go_enter Try.func107, Try.ntmps107
    go_wp2
    go_ret
    exact ⟨none, 0, rfl, Mod.refl _ _, Row1.nil _ _ _ _, trivial⟩
  | some ad =>
    obtain ⟨i0, hi, hzz⟩ := Option.map_eq_some_iff.1 info_str
    simp only [Prod.mk.injEq] at hzz
    obtain ⟨hz0, hz1, hz2⟩ := hzz
    have HC : Hid (∀ j u, (xs.map (Value.string))[j]? = some u → w.cell? (ad.add j) = some u) := by
      intro j u hu
      rw [List.getElem?_map] at hu
      obtain ⟨x, hx, rfl⟩ := Option.map_eq_some_iff.1 hu
      obtain ⟨b, o, e, _, hc⟩ := H.out.2 (by have := (List.getElem?_eq_some_iff.1 hx).1; omega)
      cases e
      rw [Addr.add_lit]
      exact hc j x hx
    clear H hlen
    go_enter Try.func107, Try.ntmps107
    go_wp2_with (at_builtin; refine wpList_append_own _ rfl _ _ 138 rfl w.heap.size 9 i0 (Value.string (⟨#[]⟩ : ByteArray)) 1 16 Try.underlying138 hi hz0 hz1 hz2 rfl (by decide) _ _ _ rfl (World.ownsRow_made w #[] 0 (Nat.le_refl _) (Nat.zero_le _) (by simp)) ad xs.length c (xs.map (Value.string)) rfl ?qc1 ?qc2 ?qc3 ?qc4 ?qc5 ?qc6 ?_)
    case qc1 => simp
    case qc2 =>
      intro j u hj
      exact Lib.cell?_alloc_some _ (HC.out j u hj)
    case qc3 => intro u hu; simp only [List.mem_map] at hu; obtain ⟨x, _, rfl⟩ := hu; rfl
    case qc4 => rw [Nat.zero_add]; unfold maxLen; omega
    case qc5 => rw [Nat.zero_add]; exact hbig
    case qc6 => simp
    intro v' w1 hown hgrow hnil
    go_wp2
    go_ret
    have hm : Mod Nil0 w w1 := ((Mod.refl _ w).alloc _).grown hgrow (by intro k hk h; simp [Value.ownBlock] at hk; omega)
    obtain ⟨A', c', rfl, hr⟩ := Row1.of_own (xs := xs) (by simpa using hown) (by omega)
    exact ⟨A', c', rfl, hm, hr.mono (fun b hb => ⟨hb.1, hb.2.1⟩), trivial⟩

/-- A sequence of a list: new memory alone. -/
theorem of_str (A : Option Addr) (c : Nat) (D : Nat → Prop) (xs : List ByteArray) (w : World) (hr : Row1 (Value.string) D w A xs) (hbig : xs.length * 16 ≤ 140737488355328) :
    Calls Try.prog 53 #[.slice A xs.length c] w fun e B => ∃ f cap D', e = .returned (.func (.func f) #[] cap) ∧ Mod Nil0 w B ∧ (∀ b, D' b → w.heap.size ≤ b) ∧
      IsSeq Try.prog (.func (.func f) #[] cap) D' (xs.map fun x => #[Value.string x]) B := by
  have hcl := clone_str A c D xs w hr hbig
  clear hr
  go_enter Try.func53, Try.ntmps53
  go_wp2_with (first
    | (go_at_call 107; refine hcl.mono ?_; clear hcl; rintro e B ⟨A', c', rfl, hm, hr, _⟩)
    | (go_at_call 106; refine (vals_str _ _ _ _).mono ?_; rintro e C ⟨rfl, rfl⟩))
  go_ret
  have hb := World.alloc_heap_new B (.cells #[.slice A' xs.length c'] 138)
  refine ⟨_, _, _, rfl, hm.alloc _, ?_, values1_str B.heap.size c' A' (fun b => w.heap.size ≤ b ∧ b < B.heap.size) xs _ (cell_of_one' hb) (hr.keep (fun b hb => Below.heap_alloc _ _ _ hb.2)) (fun b hb => by simp; omega)⟩
  rintro b (rfl | h)
  · exact hm.size
  · exact h.1

set_option maxHeartbeats 1000000 in
theorem appendSeq_int (f : Nat) (cap : Array Value) (D Wr : Nat → Prop) (It : Option Nat → World → Prop) (xs : List Int) (w : World) (hseq : SeqSpec Try.prog (.func (.func f) #[] cap) D Wr It (xs.map fun x => #[Value.int .i64 x]) w) (hbig : xs.length * 8 ≤ 140737488355328) (hl : xs.length ≤ 140737488351232) :
    Calls Try.prog 108 #[.slice none 0 0, .func (.func f) #[] cap] w (RSlice (Value.int .i64) xs Wr w (It none)) := by
  refine calls_of_FW (ro := none) (n := 0) ?_
  refine callsIn_of_wp_marks Try.func108 rfl trivial ?_
  simp only [Try.ntmps108, List.size_toArray, List.length_cons, List.length_nil, Nat.reduceAdd, Nat.reduceSub, Array.replicate_succ, Array.replicate_zero, List.push_toArray, List.append_toArray, List.nil_append, List.cons_append]
  gi_wp2
  have hbx := World.alloc_heap_new w (.cells #[.slice none 0 0] 22)
  have hM1 : Mod Nil0 w (w.alloc (.cells #[.slice none 0 0] 22)) := (Mod.refl _ _).alloc _
  have hsz1 : (w.alloc (.cells #[.slice none 0 0] 22)).heap.size = w.heap.size + 1 := by simp
  generalize hW1 : w.alloc (.cells #[.slice none 0 0] 22) = W1 at hbx hM1 hsz1 ⊢
  clear hW1
  have hseq1 := hseq.mod hM1 (fun _ _ hf => hf)
  refine wpIn_range0 rfl hseq1 (CollJ w.heap.size (w.heap.size + 1) 22 3 1 (fun k => k) (fun k => (xs.take k).map (Value.int .i64)) Wr w) (fun _ _ _ _ => False) (fun b => b = w.heap.size ∨ (Value.slice none 0 0).ownBlock = some b)
    ?hps (CollJ.stab W1.heap.size (by omega)) (fun c _ _ _ _ _ h => h.elim) (CollJ.rng hseq.1 (Nat.le_refl _) (by omega)) ?h0 ?hround ?hdone ?hstop
  case hps => intro x hxm; simp only [List.mem_map] at hxm; obtain ⟨v, _, rfl⟩ := hxm; rfl
  case h0 => exact ⟨_, rfl, hbx, by simpa using World.ownsRow_nil W1 _ _ _, hM1.mono (fun _ _ hf => hf.elim)⟩
  case hstop => rintro d m' B c k hk hd hdB hmd ⟨_, _, hf, _⟩; exact hf.elim
  case hround =>
    intro l k hk mM A hlw hlA hml hJk
    have hk' : k < xs.length := by simpa using hk
    simp only [List.getElem_map]
    simp only [List.zip_toArray, List.zip_cons_cons, List.zip_nil_right, List.foldl_toArray', List.foldl_cons, List.foldl_nil]
    clear hJk hml
    gi_wp2
    refine ⟨Mod.refl _ _, fun A2 hA2 hrec hJ2 => ?_⟩
    have hs2 := hA2.size
    obtain ⟨v, rfl, hb2, hown, hmod⟩ := hJ2
    obtain ⟨Av, cv, rfl⟩ : ∃ A c, v = .slice A k c := own_shape hown
    have hsA := hmod.size
    have hbv := cell_of_one' hb2
    have hnv : (Value.slice Av k cv).ownBlock ≠ some w.heap.size := fun h => by have := (own_lt hown h).1; omega
    have hblt := (Array.getElem?_eq_some_iff.1 hb2).1
    have HO : Hid (A2.ownsRow (w.heap.size + 1) 3 1 (.slice Av k cv) k ((xs.take k).map (Value.int .i64))) := hown
    have HN : Hid ((xs.take (k + 1)).map (Value.int .i64) = (xs.take k).map (Value.int .i64) ++ [Value.int .i64 xs[k]]) := by rw [List.take_succ_eq_append_getElem hk', List.map_append]; rfl
    have HB : Hid (A2.heap[w.heap.size]? = some (.cells #[.slice Av k cv] 22 (0, 0))) := hb2
    clear hown hb2 hseq hseq1
    gi_wp2_with (gi_at_builtin; go_loud (refine app1 (w.heap.size + 1) rfl _ _ 22 3 (Value.int .i64 (0 : Int)) 1 8 rfl Try.underlying22 info_int rfl (by decide) (by decide) (.slice Av k cv) k ((xs.take k).map (Value.int .i64)) [Value.int .i64 xs[k]] rfl rfl rfl (by simp [Value.oneCell']) HO.out (by omega) (by omega) ?_); rintro v1 w1 hown1 hg1 hv1 ⟨A1, c1, rfl⟩; have hbw := hg1.cell hbv hnv; have hfw := free_of_one' (hg1.heap HB.out hnv))
    obtain ⟨h1, h2, h3⟩ := CollJ.next (cnt := fun k => k) (vals := fun k => (xs.take k).map (Value.int .i64)) (j := k + 1) rfl HB.out hnv hmod (Nat.le_refl _) (by omega) HO.out (by rw [HN.out]; exact hown1) hg1 hv1
    exact ⟨_, h1, fun b hb => (h2 b hb).imp id (fun h => by omega), h3⟩
  case hdone =>
    rintro d m' B hd hdB hmd ⟨hsub, hmod, ⟨v, rfl, hb2, hown, hmodW⟩, hit⟩
    rw [List.length_map] at hown
    obtain ⟨A, c, rfl, hr⟩ := Row1.of_own (xs := xs) (by simpa using hown) (by omega)
    have hbv := cell_of_one' hb2
    have hblt := (Array.getElem?_eq_some_iff.1 hb2).1
    have hne : w.heap.size ≠ d := fun h => by subst h; exact hmd (.inl rfl)
    gi_wp2
    refine leaves_one hdB ⟨_, results_tmp rfl _ _ _, A, c, rfl, hmodW.putObj _ _ (fun h => by omega), ?_, ?_⟩
    · refine (hr.keep (fun b hb => World.putObj_heap_other (fun h => hmd (by subst h; exact .inr hb.2.2)))).mono (fun b hb => ?_)
      have := hb.1; have := hb.2.1; simp; omega
    · exact hseq.2.1 _ _ _ hit (fun b h => World.putObj_heap_other (by have := hseq.1 _ (.inr h); omega))

end Go.Proofs.Ytobioeehfigmcaa
