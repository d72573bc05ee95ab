/- Sorting extents: the library's contract at this program's numbers. No condition but the length. -/
import Derived.Test.YtobioeehfigmcaaAppL
import Derived.Test.YtobioeehfigmcaaDraw2
import Derived.Test.YtobioeehfigmcaaProg
import Derived.Shelf.SlSortCmp.WholeK
import Derived.Shelf.Lay
import Derived.Ground.SlsfProg
set_option linter.unusedSimpArgs false
set_option linter.unusedVariables false
set_option maxRecDepth 100000
namespace Go.Proofs.Ytobioeehfigmcaa
open Go Go.RowKit Go.Shelf Go.Lib Go.Sort

shelf_lay_g SlLaysF0.n6 Slsf 6 at Try 145 as sortExt

/-- An extent's two cells. -/
def encE (x : Int × Int) : List Value := [.int .i64 x.1, .int .i64 x.2]
theorem cmp_int (x y : Int) (W : World) : Calls Try.prog 117 #[.int .i64 x, .int .i64 y] W fun e w' => e = .returned (.int .i64 (Lib.compareInt x y)) ∧ w' = W := by
  unfold Lib.compareInt
  by_cases h1 : x < y
  · go_enter Try.func117, Try.ntmps117
    go_wp2
    go_ret
    exact ⟨by simp [h1], rfl⟩
  · by_cases h2 : y < x
    · go_enter Try.func117, Try.ntmps117
      go_wp2
      go_ret
      exact ⟨by simp [h1, h2], rfl⟩
    · go_enter Try.func117, Try.ntmps117
      go_wp2
      go_ret
      exact ⟨by simp [h1, h2], rfl⟩
theorem ltLo (x y : Int × Int) : ltOf (fun x y : Int × Int => Lib.compareInt x.1 y.1) x y = decide (x.1 < y.1) := by
  unfold ltOf Lib.compareInt
  by_cases h1 : x.1 < y.1
  · simp [h1]
  · by_cases h2 : y.1 < x.1 <;> simp [h1, h2]
theorem swoLo : SWO (ltOf fun x y : Int × Int => Lib.compareInt x.1 y.1) where
  irrefl x := by rw [ltLo]; simp
  trans x y z h1 h2 := by rw [ltLo] at *; simp at *; omega
  ntrans x y z h1 h2 := by rw [ltLo] at *; simp at *; omega
set_option maxHeartbeats 1000000 in
/-- The closure that compares: two blocks are laid. -/
theorem rising1 (x y : Int × Int) (W : World) : Calls Try.prog 116 #[.agg #[.int .i64 x.1, .int .i64 x.2], .agg #[.int .i64 y.1, .int .i64 y.2]] W fun e w' => e = .returned (.int .i64 (Lib.compareInt x.1 y.1)) ∧ ∃ q os', w' = grow (W.drewN q) os' := by
  have hcon := fun W' => cmp_int x.1 y.1 W'
  generalize Lib.compareInt x.1 y.1 = r at hcon ⊢
  go_enter Try.func116, Try.ntmps116
  go_wp2_with (go_at_call 117; refine (hcon _).mono ?_; rintro e w' ⟨rfl, rfl⟩)
  go_ret
  exact ⟨rfl, 0, _, by rw [alloc_eq_grow, alloc_eq_grow, grow_grow]; rfl⟩
theorem cmpLays (blk off size : Nat) (w : World) : CmpLays Try.prog 116 #[] encE 2 (fun x y => Lib.compareInt x.1 y.1) blk off size w :=
  fun _ _ _ _ x y => rising1 x y _
theorem isAggE (w : World) : (isAgg 64).run Try.prog w = .ok true w := by kernel_rfl
theorem sizeOfE (w : World) : (Go.sizeOf 64).run Try.prog w = .ok 2 w := by kernel_rfl
/-- The sort, at every length. -/
theorem sortFunc (blk off cap : Nat) (d : Array (Int × Int)) (w : World) (hH : HoldsK encE 2 w blk off d) (hblk : blk < w.heap.size) (hsz : d.size < 4611686018427387904) :
    Calls Try.prog 145 #[.slice (some ⟨blk, off, none⟩) d.size cap, .func (.func 116) #[] #[]] w fun e w' =>
      e = .returned (.tuple #[]) ∧ ∃ d' n os, PermIn 0 d.size d d' ∧ SortedIn (ltOf fun x y : Int × Int => Lib.compareInt x.1 y.1) 0 d.size d' ∧ w' = sortWorldK encE 2 w blk off n d' os := by
  have eg : ∀ args w, (callFunc 116 args).run Try.prog w = .ok (.enter 116 args) w := enters_of Try.func116 (by kernel_rfl) rfl
  exact AnyQ.slices_SortFunc sortExt 2 isAggE sizeOfE encE (fun _ => rfl) (fun x v hv => by simp [encE] at hv; rcases hv with rfl | rfl <;> rfl) (fun x y => Lib.compareInt x.1 y.1) swoLo 116 #[] blk off cap d w eg (cmpLays blk off d.size w) hH hblk hsz
end Go.Proofs.Ytobioeehfigmcaa
