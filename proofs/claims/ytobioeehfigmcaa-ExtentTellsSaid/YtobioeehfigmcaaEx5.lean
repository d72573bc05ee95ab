/- Collecting extents. No condition but the bound. -/
import Derived.Test.YtobioeehfigmcaaEx4
import Derived.Deep.Onto
set_option linter.unusedSimpArgs false
set_option linter.unusedVariables false
set_option maxRecDepth 100000
namespace Go.Proofs.Ytobioeehfigmcaa
open Go Go.RowKit Go.Shelf
attribute [local go_sem] Oper.semAt_some

/-- A row of the call's own comes back. -/
def ROwn (t : TypeId) (sz n : Nat) (cells : List Value) (Wr : Nat → Prop) (w : World) (X : World → Prop) (e : Ending) (B : World) : Prop :=
  ∃ v, e = .returned v ∧ Mod Wr w B ∧ B.ownsRow w.heap.size t sz v n cells ∧ X B
set_option maxHeartbeats 1000000 in
theorem appendSeq_ext (f : Nat) (cap : Array Value) (D Wr : Nat → Prop) (It : Option Nat → World → Prop) (xs : List (Int × Int)) (w : World) (hseq : SeqSpec Try.prog (.func (.func f) #[] cap) D Wr It (xs.map fun x => #[aggE x]) w) (hbig : xs.length * 16 ≤ 140737488355328) :
    Calls Try.prog 176 #[.slice none 0 0, .func (.func f) #[] cap] w (ROwn 64 2 xs.length (xs.flatMap encE) Wr w (It none)) := by
  refine calls_of_FW (ro := none) (n := 0) ?_
  refine callsIn_of_wp_marks Try.func176 rfl trivial ?_
  simp only [Try.ntmps176, List.size_toArray, List.length_cons, List.length_nil, Nat.reduceAdd, Nat.reduceSub, Array.replicate_succ, Array.replicate_zero, List.push_toArray, List.append_toArray, List.nil_append, List.cons_append]
  gi_wp2
  have hbx := World.alloc_heap_new w (.cells #[.slice none 0 0] 51)
  have hM1 : Mod Nil0 w (w.alloc (.cells #[.slice none 0 0] 51)) := (Mod.refl _ _).alloc _
  have hsz1 : (w.alloc (.cells #[.slice none 0 0] 51)).heap.size = w.heap.size + 1 := by simp
  generalize hW1 : w.alloc (.cells #[.slice none 0 0] 51) = W1 at hbx hM1 hsz1 ⊢
  clear hW1
  have hseq1 := hseq.mod hM1 (fun _ _ hf => hf)
  refine wpIn_range0 rfl hseq1 (CollJ w.heap.size (w.heap.size + 1) 51 64 2 (fun k => k) (fun k => (xs.take k).flatMap encE) Wr w) (fun _ _ _ _ => False) (fun b => b = w.heap.size ∨ (Value.slice none 0 0).ownBlock = some b)
    ?hps (CollJ.stab W1.heap.size (by omega)) (fun c _ _ _ _ _ h => h.elim) (CollJ.rng hseq.1 (Nat.le_refl _) (by omega)) ?h0 ?hround ?hdone ?hstop
  case hps => intro x hxm; simp only [List.mem_map] at hxm; obtain ⟨v, _, rfl⟩ := hxm; rfl
  case h0 => exact ⟨_, rfl, hbx, by simpa using World.ownsRow_nil W1 _ _ _, hM1.mono (fun _ _ hf => hf.elim)⟩
  case hstop => rintro d m' B c k hk hd hdB hmd ⟨_, _, hf, _⟩; exact hf.elim
  case hround =>
    intro l k hk mM A hlw hlA hml hJk
    have hk' : k < xs.length := by simpa using hk
    simp only [List.getElem_map]
    simp only [List.zip_toArray, List.zip_cons_cons, List.zip_nil_right, List.foldl_toArray', List.foldl_cons, List.foldl_nil]
    clear hJk hml
    unfold aggE
    gi_wp2
    refine ⟨(Mod.refl _ _).alloc _, fun A2 hA2 hrec hJ2 => ?_⟩
    have hb5 : A2.heap[A.heap.size]? = some (.cells #[.int .i64 xs[k].1, .int .i64 xs[k].2] 64 (0, 0)) := hA2.heap (World.alloc_heap_new A _) (by omega)
    have hc50 : A2.cell? ⟨A.heap.size, 0, none⟩ = some (.int .i64 xs[k].1) := by simp [World.cell?, hb5]
    have hc51 : A2.cell? ⟨A.heap.size, 1, none⟩ = some (.int .i64 xs[k].2) := by simp [World.cell?, hb5]
    have hs2 := hA2.size
    have hs3 : A.heap.size + 1 ≤ A2.heap.size := by simpa using hs2
    clear hs2 hb5
    obtain ⟨v, rfl, hb2, hown, hmod⟩ := hJ2
    obtain ⟨Av, cv, rfl⟩ : ∃ A c, v = .slice A k c := own_shape hown
    have hsA := hmod.size
    have hbv := cell_of_one' hb2
    have hnv : (Value.slice Av k cv).ownBlock ≠ some w.heap.size := fun h => by have := (own_lt hown h).1; omega
    have hblt := (Array.getElem?_eq_some_iff.1 hb2).1
    have HO : Hid (A2.ownsRow (w.heap.size + 1) 64 2 (.slice Av k cv) k ((xs.take k).flatMap encE)) := hown
    have HN : Hid ((xs.take (k + 1)).flatMap encE = (xs.take k).flatMap encE ++ [.int .i64 xs[k].1, .int .i64 xs[k].2]) := by show _ = _; rw [List.take_succ_eq_append_getElem hk', List.flatMap_append]; simp [encE]
    have HB : Hid (A2.heap[w.heap.size]? = some (.cells #[.slice Av k cv] 51 (0, 0))) := hb2
    clear hown hb2 hseq hseq1
    gi_wp2_with (gi_at_builtin; refine app1 (w.heap.size + 1) rfl _ _ 51 64 (.agg #[.int .i64 0, .int .i64 0]) 2 16 rfl Try.underlying51 info_ext rfl (by decide) (by decide) (.slice Av k cv) k ((xs.take k).flatMap encE) [.int .i64 xs[k].1, .int .i64 xs[k].2] rfl rfl rfl (by simp [Value.oneCell']) HO.out (by omega) (by omega) ?_; rintro v1 w1 hown1 hg1 hv1 ⟨A1, c1, rfl⟩; have hbw := hg1.cell hbv hnv; have hfw := free_of_one' (hg1.heap HB.out hnv))
    obtain ⟨h1, h2, h3⟩ := CollJ.next (cnt := fun k => k) (vals := fun k => (xs.take k).flatMap encE) (j := k + 1) rfl HB.out hnv hmod (Nat.le_refl _) (by omega) HO.out (by rw [HN.out]; exact hown1) hg1 hv1
    exact ⟨_, h1, fun b hb => (h2 b hb).imp id (fun h => by omega), h3⟩
  case hdone =>
    rintro d m' B hd hdB hmd ⟨hsub, hmod, ⟨v, rfl, hb2, hown, hmodW⟩, hit⟩
    rw [List.length_map] at hown
    have hown : B.ownsRow (w.heap.size + 1) 64 2 v xs.length (xs.flatMap encE) := by simpa using hown
    have hbv := cell_of_one' hb2
    have hblt := (Array.getElem?_eq_some_iff.1 hb2).1
    have hne : w.heap.size ≠ d := fun h => by subst h; exact hmd (.inl rfl)
    have HO : Hid (B.ownsRow (w.heap.size + 1) 64 2 v xs.length (xs.flatMap encE) ∧ ∀ b, v.ownBlock = some b → b ≠ d) := ⟨hown, fun b hb e => hmd (by subst e; exact .inr hb)⟩
    clear hown
    gi_wp2
    refine leaves_one hdB ⟨_, results_tmp rfl _ _ _, _, rfl, hmodW.putObj _ _ (fun h => by omega), ?_, ?_⟩
    · exact own_move (HO.out.1.mono (by omega)) (fun b hb => World.putObj_heap_other (HO.out.2 b hb))
    · exact hseq.2.1 _ _ _ hit (fun b h => World.putObj_heap_other (by have := hseq.1 _ (.inr h); omega))
end Go.Proofs.Ytobioeehfigmcaa
