/- Regions that draw: one operation alone that yields no value. No condition. -/
import Derived.Test.YtobioeehfigmcaaDraw
set_option linter.unusedSimpArgs false
set_option linter.unusedVariables false
namespace Go.Proofs.Ytobioeehfigmcaa
open Go Go.RowKit
variable {P : Program} {ro : Option Nat} {n : Nat} {ops : Array Oper} {Q : Exit → Act → World → Prop} {I : World → Prop}
theorem effS {i fuel : Nat} {oi : Oper} {listed : Array Bool} {a : Act} {w w' : World} (hr : Region.ready .any ops listed = [i]) (hi : ops[i]? = some oi) (hcalm : calmOps ops = true) (hw : Region.wanted oi (yielded ops a.tmps) = true)
    (hrun : (execOp a.eval oi).run P w = .ok .skip w') (hI : I w') (h : wpAnyI P ro n ops Q I fuel (listed.setIfInBounds i true) (a.put oi.dst undef) w') : wpAnyI P ro n ops Q I (fuel + 1) listed a w := by
  refine oneI hr hi (fun K hK => ?_)
  rw [if_pos hw]
  unfold Oper.wpIn
  rw [Oper.semAt_eq _ _ _ (calm_sel hcalm hi).2, hrun]
  exact ⟨fun _ _ => trivial, hK _ _ hI h⟩
theorem oneW {i fuel : Nat} {oi : Oper} {listed : Array Bool} {a : Act} {w : World} (hr : Region.ready .any ops listed = [i]) (hi : ops[i]? = some oi) (hw : Region.wanted oi (yielded ops a.tmps) = true)
    (h : ∀ K : Act → World → Prop, (∀ a w, I w → wpAnyI P ro n ops Q I fuel (listed.setIfInBounds i true) a w → K a w) → oi.wpIn (FW ro) n P a w K Q) : wpAnyI P ro n ops Q I (fuel + 1) listed a w :=
  oneI hr hi (fun K hK => by rw [if_pos hw]; exact h K hK)
end Go.Proofs.Ytobioeehfigmcaa
