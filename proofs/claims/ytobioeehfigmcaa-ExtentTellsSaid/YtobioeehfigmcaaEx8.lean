/- The library's SortedFunc over extents, and the program's rising row. No condition but the bound. -/
import Derived.Test.YtobioeehfigmcaaEx7
import Derived.Test.YtobioeehfigmcaaEp
import Derived.Shelf.SlSortCmp.NoneTotal
set_option linter.unusedSimpArgs false
set_option linter.unusedVariables false
set_option maxRecDepth 100000
namespace Go.Proofs.Ytobioeehfigmcaa
open Go Go.RowKit Go.Shelf Go.Lib Go.Sort
attribute [local go_sem] Oper.semAt_some

theorem sorted_rises {d d' : Array (Int × Int)} (hp : PermIn 0 d.size d d') (hs : SortedIn (ltOf fun x y : Int × Int => Lib.compareInt x.1 y.1) 0 d.size d') : d'.size = d.size ∧ d'.toList.Perm d.toList ∧ Ext.Rises d'.toList := by
  obtain ⟨h1, _, h2⟩ := hp
  refine ⟨h1, ?_, ?_⟩
  · have e1 : d'.extract 0 d.size = d' := by rw [← h1]; exact Array.extract_size
    have e2 : d.extract 0 d.size = d := Array.extract_size
    rwa [e1, e2] at h2
  · unfold Ext.Rises
    rw [List.pairwise_iff_getElem]
    intro i j hi hj hij
    have hi' : i < d'.size := by simpa using hi
    have hj' : j < d'.size := by simpa using hj
    have := hs i j (Nat.zero_le _) hij (by omega)
    rw [ltLo, getElem!_pos d' i hi', getElem!_pos d' j hj'] at this
    simp only [decide_eq_false_iff_not, Int.not_lt] at this
    simpa using this

/-- A sorted row of the call's own comes back. -/
def RSort (xs : List (Int × Int)) (Wr : Nat → Prop) (w : World) (X : World → Prop) (e : Ending) (B : World) : Prop :=
  ∃ rs : List (Int × Int), rs.Perm xs ∧ Ext.Rises rs ∧ ROwn 64 2 xs.length (rs.flatMap encE) Wr w X e B
theorem RSort.mk {xs : List (Int × Int)} {Wr : Nat → Prop} {w B C : World} {X : World → Prop} {g cap : Nat} {d : Array (Int × Int)} {n : Nat} {os : Array Obj}
    (hm : Mod Wr w B) (ho : B.ownsRow w.heap.size 64 2 (.slice (some ⟨g, 0, none⟩) xs.length cap) xs.length (xs.flatMap encE))
    (hp : PermIn 0 xs.length xs.toArray d) (hs : SortedIn (ltOf fun x y : Int × Int => Lib.compareInt x.1 y.1) 0 xs.length d)
    (hC : C = sortWorldK encE 2 B g 0 n d os) (hX : X C) : RSort xs Wr w X (.returned (.slice (some ⟨g, 0, none⟩) xs.length cap)) C := by
  subst hC
  obtain ⟨h1, h2, h3⟩ := sorted_rises (d := xs.toArray) (by simpa using hp) (by simpa using hs)
  have hg := (own_lt ho (b := g) rfl).1
  exact ⟨d.toList, by simpa using h2, h3, _, rfl, hm.trans' (sortWorld_mod B g n d os) (fun b hb e => by omega), own_sorted ho (by simpa using h1), hX⟩

/-- The sort of a row of the call's own. -/
theorem sortOwn {xs : List (Int × Int)} {Wr : Nat → Prop} {It : Option Nat → World → Prop} {w B : World} {v : Value} (hm : Mod Wr w B) (ho : B.ownsRow w.heap.size 64 2 v xs.length (xs.flatMap encE)) (hit : It none B) (hI : ItStab Wr It) (hW : ∀ b, Wr b → b < w.heap.size)
    (hbig : xs.length * 16 ≤ 140737488355328) : Calls Try.prog 145 #[v, .func (.func 116) #[] #[]] B fun e C => e = .returned (.tuple #[]) ∧ RSort xs Wr w (It none) (.returned v) C := by
  rcases ho.2 with ⟨rfl, h0⟩ | ⟨g, cap, cur, rfl, hb, hg, _⟩
  · have hx : xs = [] := List.eq_nil_of_length_eq_zero h0
    subst hx
    refine (AnyF.slices_SortFunc_none { sortExt with } none 0 _ B).mono ?_
    rintro e C ⟨rfl, rfl⟩
    exact ⟨rfl, [], .refl _, by simp [Ext.Rises], _, rfl, hm, ho, hit⟩
  · have hs := sortFunc g 0 cap xs.toArray B (holdsK_own ho) (own_lt ho rfl).2 (by simp; omega)
    simp only [List.size_toArray] at hs
    refine hs.mono ?_
    rintro e C ⟨rfl, d, n, os, hp, hs, rfl⟩
    refine ⟨rfl, RSort.mk hm ho hp hs rfl (hI _ _ _ hit (fun b hb' => (sortWorld_mod B g n d os).block b ?_ ?_))⟩
    · have := hW b hb'; have := hm.size; omega
    · intro e; have := hW b hb'; have e : b = g := e; omega
set_option maxHeartbeats 1000000 in
theorem sortedFunc_ext (f : Nat) (cap : Array Value) (D Wr : Nat → Prop) (It : Option Nat → World → Prop) (xs : List (Int × Int)) (w : World) (hseq : SeqSpec Try.prog (.func (.func f) #[] cap) D Wr It (xs.map fun x => #[aggE x]) w) (hbig : xs.length * 16 ≤ 140737488355328) :
    Calls Try.prog 114 #[.func (.func f) #[] cap, .func (.func 116) #[] #[]] w (RSort xs Wr w (It none)) := by
  have hc := collect_ext f cap D Wr It xs w hseq hbig
  have HS : Hid (ItStab Wr It ∧ ∀ b, Wr b → b < w.heap.size) := ⟨hseq.2.1, fun b hb => hseq.1 b (.inr hb)⟩
  clear hseq
  go_enter Try.func114, Try.ntmps114
  go_wp2_with (first
    | (go_at_call 144; refine hc.mono ?_; clear hc; rintro e B ⟨v, rfl, hm, hown, hit⟩; have HV := Lib.hid (sortOwn hm hown hit HS.out.1 HS.out.2 hbig); clear hm hown hit)
    | (go_at_call 145; refine HV.out.mono ?_; clear HV; rintro e C ⟨rfl, hr⟩; have HR := Lib.hid hr; clear hr))
  go_ret
  exact HR.out
theorem rising_ext (A : Option Addr) (c : Nat) (D : Nat → Prop) (xs : List (Int × Int)) (w : World) (hr : RowK 2 encE D w A xs) (hD : ∀ b, D b → b < w.heap.size) (hbig : xs.length * 16 ≤ 140737488355328) :
    Calls Try.prog 73 #[.slice A xs.length c] w (RSort xs Nil0 w (fun _ => True)) := by
  have hs := values1_ext w.heap.size c A D xs (w.alloc (.cells #[.slice A xs.length c] 51)) (cell_of_one' (World.alloc_heap_new w _)) (hr.keep (fun b hb => Below.heap_alloc _ _ _ (hD b hb))) (fun b hb => by have := hD b hb; simp; omega)
  have hc := sortedFunc_ext _ _ _ _ _ xs _ hs hbig
  clear hs hr hD
  go_enter Try.func73, Try.ntmps73
  go_wp2_with (first
    | (go_at_call 115; refine (vals_ext _ _ _ _).mono ?_; rintro e C ⟨rfl, rfl⟩)
    | (go_at_call 114; refine hc.mono ?_; clear hc; rintro e C ⟨rs, h1, h2, v, rfl, hm, ho, hx⟩; have HR := Lib.hid (And.intro h1 (And.intro h2 (And.intro hm ho))); clear h1 h2 hm ho hx))
  go_ret
  obtain ⟨h1, h2, hm, ho⟩ := HR.out
  exact ⟨rs, h1, h2, v, rfl, ((Mod.refl _ _).alloc _).trans hm, ho.mono (by simp), trivial⟩
end Go.Proofs.Ytobioeehfigmcaa
