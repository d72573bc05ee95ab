/- Clone and Of over extents. No condition but the slice's bound. -/
import Derived.Test.YtobioeehfigmcaaEx3
set_option linter.unusedSimpArgs false
set_option linter.unusedVariables false
set_option maxRecDepth 100000
namespace Go.Proofs.Ytobioeehfigmcaa
open Go Go.RowKit Go.Shelf
attribute [local go_sem] Oper.semAt_some

theorem info_ext : (Try.prog.info? 64).map (fun i => (i.zero, i.size, i.bytes)) = some (some (.agg #[.int .i64 0, .int .i64 0]), 2, 16) := by kernel_rfl
theorem encE_len (x : Int × Int) : (encE x).length = 2 := rfl
/-- A new slice of xs comes back. -/
def RSliceK {α : Type} (k : Nat) (enc : α → List Value) (xs : List α) (Wr : Nat → Prop) (w : World) (X : World → Prop) (e : Ending) (B : World) : Prop :=
  ∃ A c, e = .returned (.slice A xs.length c) ∧ Mod Wr w B ∧ RowK k enc (fun b => w.heap.size ≤ b ∧ b < B.heap.size) B A xs ∧ X B
set_option maxHeartbeats 1000000 in
theorem clone_ext (A : Option Addr) (c : Nat) (D : Nat → Prop) (xs : List (Int × Int)) (w : World) (hr : RowK 2 encE D w A xs) (hbig : xs.length * 16 ≤ 140737488355328) :
    Calls Try.prog 78 #[.slice A xs.length c] w (RSliceK 2 encE xs Nil0 w (fun _ => True)) := by
  have q22 : ∀ (w : World) (a : Option Addr) (n c n' c' : Nat), (binOp .eql 51 (.slice a n c) (.slice none n' c')).run Try.prog w = .ok (.bool a.isNone) w := fun w a n c n' c' => Lib.run_eql_slice_nil w _ _ a n c n' c' Try.underlying51
  have H : Hid (RowK 2 encE D w A xs) := hr
  have hlen := hr.1
  clear hr
  cases A with
  | none =>
    have h0 : xs = [] := by
      cases xs with
      | nil => rfl
      | cons x xs => obtain ⟨_, _, h, _⟩ := H.out.2 (by simp); cases h
    subst h0
    go_enter Try.func78, Try.ntmps78
    go_wp2
    go_ret
    exact ⟨none, 0, rfl, Mod.refl _ _, RowK.nil _ _ _ _ _, trivial⟩
  | some ad =>
    obtain ⟨i0, hi, hzz⟩ := Option.map_eq_some_iff.1 info_ext
    simp only [Prod.mk.injEq] at hzz
    obtain ⟨hz0, hz1, hz2⟩ := hzz
    have HC : Hid (∀ j u, (xs.flatMap encE)[j]? = some u → w.cell? (ad.add j) = some u) := H.out.flat encE_len ad rfl
    clear H hlen
    go_enter Try.func78, Try.ntmps78
    go_wp2_with (at_builtin; refine wpList_append_own _ rfl _ _ 51 rfl w.heap.size 64 i0 (.agg #[.int .i64 0, .int .i64 0]) 2 16 Try.underlying51 hi hz0 hz1 hz2 rfl (by decide) _ _ _ rfl (World.ownsRow_made w #[] 0 (Nat.le_refl _) (Nat.zero_le _) (by simp)) ad xs.length c (xs.flatMap encE) rfl ?qc1 ?qc2 ?qc3 ?qc4 ?qc5 ?qc6 ?_)
    case qc1 => exact flat_len encE_len xs
    case qc2 =>
      intro j u hj
      exact Lib.cell?_alloc_some _ (HC.out j u hj)
    case qc3 => intro u hu; simp only [List.mem_flatMap, encE, List.mem_cons, List.not_mem_nil, or_false] at hu; obtain ⟨x, _, rfl | rfl⟩ := hu <;> rfl
    case qc4 => rw [Nat.zero_add]; unfold maxLen; omega
    case qc5 => rw [Nat.zero_add]; exact hbig
    case qc6 => simp
    intro v' w1 hown hgrow hnil
    go_wp2
    go_ret
    have hm : Mod Nil0 w w1 := ((Mod.refl _ w).alloc _).grown hgrow (by intro k hk h; simp [Value.ownBlock] at hk; omega)
    obtain ⟨A', c', rfl, hr⟩ := RowK.of_own (enc := encE) encE_len (by omega) (xs := xs) (by simpa using hown) (by omega)
    exact ⟨A', c', rfl, hm, hr.mono (fun b hb => ⟨hb.1, hb.2.1⟩), trivial⟩
theorem of_ext (A : Option Addr) (c : Nat) (D : Nat → Prop) (xs : List (Int × Int)) (w : World) (hr : RowK 2 encE D w A xs) (hbig : xs.length * 16 ≤ 140737488355328) :
    Calls Try.prog 75 #[.slice A xs.length c] w (SeqOut Try.prog Nil0 Nil0 (fun _ _ => True) (xs.map fun x => #[aggE x]) w) := by
  have hcl := clone_ext A c D xs w hr hbig
  clear hr
  go_enter Try.func75, Try.ntmps75
  go_wp2_with (first
    | (go_at_call 78; refine hcl.mono ?_; clear hcl; rintro e B ⟨A', c', rfl, hm, hr, _⟩)
    | (go_at_call 115; refine (vals_ext _ _ _ _).mono ?_; rintro e C ⟨rfl, rfl⟩))
  go_ret
  have hb := World.alloc_heap_new B (.cells #[.slice A' xs.length c'] 51)
  have hs := hm.size
  refine ⟨_, _, rfl, hm.alloc _, (values1_ext B.heap.size c' A' (fun b => w.heap.size ≤ b ∧ b < B.heap.size) xs _ (cell_of_one' hb) (hr.keep (fun b hb => Below.heap_alloc _ _ _ hb.2)) (fun b hb => by simp; omega)).monoD ?_ ?_⟩
  · rintro b (rfl | h)
    · exact .inr (by simp; omega)
    · exact .inr (by simp; omega)
  · rintro b (h | h)
    · exact h.elim
    · exact h.2
end Go.Proofs.Ytobioeehfigmcaa
