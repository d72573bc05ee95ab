/- Collect over extents. No condition but the bound. -/
import Derived.Test.YtobioeehfigmcaaEx5
set_option linter.unusedSimpArgs false
set_option linter.unusedVariables false
set_option maxRecDepth 100000
namespace Go.Proofs.Ytobioeehfigmcaa
open Go Go.RowKit Go.Shelf
attribute [local go_sem] Oper.semAt_some
theorem collect_ext (f : Nat) (cap : Array Value) (D Wr : Nat → Prop) (It : Option Nat → World → Prop) (xs : List (Int × Int)) (w : World) (hseq : SeqSpec Try.prog (.func (.func f) #[] cap) D Wr It (xs.map fun x => #[aggE x]) w) (hbig : xs.length * 16 ≤ 140737488355328) :
    Calls Try.prog 144 #[.func (.func f) #[] cap] w (ROwn 64 2 xs.length (xs.flatMap encE) Wr w (It none)) := by
  have hc := appendSeq_ext f cap D Wr It xs w hseq hbig
  clear hseq
  go_enter Try.func144, Try.ntmps144
  go_wp2_with (go_at_call 176; refine hc.mono ?_; clear hc; rintro e B ⟨v, rfl, hr⟩)
  go_ret
  exact ⟨v, rfl, hr⟩
theorem eqNil_seq_ext (fn : Fn) (a c : Array Value) (w : World) : (binOp .eql 105 (.func fn a c) .nilFunc).run Try.prog w = .ok (.bool false) w := by kernel_rfl
attribute [local go_sem] eqNil_seq_ext
theorem each_ext (f : Nat) (cap : Array Value) (w : World) : Calls Try.prog 118 #[.func (.func f) #[] cap] w fun e B => e = .returned (.func (.func f) #[] cap) ∧ w = B := by
  go_enter Try.func118, Try.ntmps118
  go_wp2
  go_ret
  exact ⟨rfl, rfl⟩
end Go.Proofs.Ytobioeehfigmcaa
