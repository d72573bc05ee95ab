/-
  No cell of these rows narrows 'for every input' (looked for: loops, veiled, ifaces, maps, wideKeys, modest, calm, conditions, laid).
  DERIVED. THE GIVEN ROWS OF THIS SEAT. 4 by the template 'for every input the law returns true; each argument reads behind the call as it read before'; 0 by the template 'total and deterministic' (their statements: YtobioeehfigmcaaTotals.lean).
  GIVEN WITH THE SEED: the statements are not yours to turn. If you find one false, say at which input.
  Laid BY PROGRAM, IN A SANDBOX (cutbox-rows.mjs): the forced cells as the released guide's own fill.sh prints them over the translation f06e98409d29a834… (all of the seat's roots in one cut). By AI agents, Wed Nov 11 2026. No macro, syntax, notation, axiom, sorry.
-/
import Derived.Test.YtobioeehfigmcaaChecked
import GoSem.Claim
import GoSem.ClaimJoined
import GoSem.ClaimMapViews
import Derived.JoinedTies
import Derived.KernelRfl
namespace Go.Proofs.Ytobioeehfigmcaa
/- THE CELL 'sum', in the pinned program and in every row, IS THE sha256 OF THE DUMP (.gsa) THAT YtobioeehfigmcaaProg.lean LOADS. Nothing in Lean hashes anything: it is a label: what it is worth is what the hold of that sum in a sandbox is worth. -/
noncomputable def Try.pinned : Pinned := { name := "ytobioeehfigmcaa", sum := "f06e98409d29a834425d5fd3a4f56d2552c5c03f274bbe7209cf7dbcb49cac30", checked := Try.checked }
namespace Rows
def none {H : Type} : Left H := { results := [], args := [] }

/-- 'breviarylaw05.FlowMakes': WHATEVER THE INPUT: true; the input reads as it did. -/
def flowMakesSpec : ChangeSpec := { name := "flowMakes", fn := fun _ => fun
  | [d1, d2, d3] => { results := [.lit (.bool true)], args := [d1, d2, d3] }
  | _ => none }
def flowMakesRow : OpenClaim := { program := "ytobioeehfigmcaa", sum := "f06e98409d29a834425d5fd3a4f56d2552c5c03f274bbe7209cf7dbcb49cac30", func := "breviary/breviarylaw05.FlowMakes", spec := "flowMakes", unfollowed := true, recurses := true, apart := false }
def FlowMakesSaid : Prop := flowMakesRow.holds Try.pinned (OpenSpec.ofChange flowMakesSpec)

/-- ITS FALSE NEIGHBOUR: 'it returns false'. Refute it at one input. -/
def flowMakesWrong : ChangeSpec := { name := "flowMakes", fn := fun _ => fun
  | [d1, d2, d3] => { results := [.lit (.bool false)], args := [d1, d2, d3] }
  | _ => none }
def FlowMakesWrongFalsely : Prop := flowMakesRow.holds Try.pinned (OpenSpec.ofChange flowMakesWrong)

/-- 'breviarylaw15.ExtentTells': WHATEVER THE INPUT: true; the input reads as it did. -/
def extentTellsSpec : ChangeSpec := { name := "extentTells", fn := fun _ => fun
  | [d1, d2, d3] => { results := [.lit (.bool true)], args := [d1, d2, d3] }
  | _ => none }
def extentTellsRow : OpenClaim := { program := "ytobioeehfigmcaa", sum := "f06e98409d29a834425d5fd3a4f56d2552c5c03f274bbe7209cf7dbcb49cac30", func := "breviary/breviarylaw15.ExtentTells", spec := "extentTells", unfollowed := true, recurses := true, apart := false }
def ExtentTellsSaid : Prop := extentTellsRow.holds Try.pinned (OpenSpec.ofChange extentTellsSpec)

/-- ITS FALSE NEIGHBOUR: 'it returns false'. Refute it at one input. -/
def extentTellsWrong : ChangeSpec := { name := "extentTells", fn := fun _ => fun
  | [d1, d2, d3] => { results := [.lit (.bool false)], args := [d1, d2, d3] }
  | _ => none }
def ExtentTellsWrongFalsely : Prop := extentTellsRow.holds Try.pinned (OpenSpec.ofChange extentTellsWrong)

/-- 'breviarylaw22.PlanHolds': WHATEVER THE INPUT: true; the input reads as it did. -/
def planHoldsSpec : ChangeSpec := { name := "planHolds", fn := fun _ => fun
  | [d1, d2, d3] => { results := [.lit (.bool true)], args := [d1, d2, d3] }
  | _ => none }
def planHoldsRow : OpenClaim := { program := "ytobioeehfigmcaa", sum := "f06e98409d29a834425d5fd3a4f56d2552c5c03f274bbe7209cf7dbcb49cac30", func := "breviary/breviarylaw22.PlanHolds", spec := "planHolds", unfollowed := true, recurses := true, apart := false }
def PlanHoldsSaid : Prop := planHoldsRow.holds Try.pinned (OpenSpec.ofChange planHoldsSpec)

/-- ITS FALSE NEIGHBOUR: 'it returns false'. Refute it at one input. -/
def planHoldsWrong : ChangeSpec := { name := "planHolds", fn := fun _ => fun
  | [d1, d2, d3] => { results := [.lit (.bool false)], args := [d1, d2, d3] }
  | _ => none }
def PlanHoldsWrongFalsely : Prop := planHoldsRow.holds Try.pinned (OpenSpec.ofChange planHoldsWrong)

/-- 'breviarylaw24.PruneKeeps': WHATEVER THE INPUT: true; the input reads as it did. -/
def pruneKeepsSpec : ChangeSpec := { name := "pruneKeeps", fn := fun _ => fun
  | [d1, d2] => { results := [.lit (.bool true)], args := [d1, d2] }
  | _ => none }
def pruneKeepsRow : OpenClaim := { program := "ytobioeehfigmcaa", sum := "f06e98409d29a834425d5fd3a4f56d2552c5c03f274bbe7209cf7dbcb49cac30", func := "breviary/breviarylaw24.PruneKeeps", spec := "pruneKeeps", inPlace := ["slices.overlaps[breviary/order.pair[int, bool]]"], unfollowed := true, recurses := true, apart := false }
def PruneKeepsSaid : Prop := pruneKeepsRow.holds Try.pinned (OpenSpec.ofChange pruneKeepsSpec)

/-- ITS FALSE NEIGHBOUR: 'it returns false'. Refute it at one input. -/
def pruneKeepsWrong : ChangeSpec := { name := "pruneKeeps", fn := fun _ => fun
  | [d1, d2] => { results := [.lit (.bool false)], args := [d1, d2] }
  | _ => none }
def PruneKeepsWrongFalsely : Prop := pruneKeepsRow.holds Try.pinned (OpenSpec.ofChange pruneKeepsWrong)

/- THE SECOND FORM. 'bulk': how many values and letters a reading holds, each counted each time it is reached (what is shared counts as often as it is met; a slice's spare places count too). A statement '..UptoSaid' is the law's where the arguments, and the package variables that the reading takes, are together of bulk at most 1048576: NARROWER than '..Said'. Prove '..Said' where nothing that the law and all that it calls make is longer than what came in: it says more and counts as full. Else prove '..UptoSaid'. A law counts once. -/
mutual
def uptoBulk {H : Type} : DataW H → Nat
  | .lit (.string bytes) => bytes.length + 1
  | .lit _ => 1
  | .nil => 1
  | .ptr d => uptoBulk d + 1
  | .slice elems spare => uptoBulkAll elems + uptoBulkAll spare + 1
  | .agg parts => uptoBulkAll parts + 1
  | .iface _ d => uptoBulk d + 1
  | .map entries => uptoBulkEntries entries + 1
  | .held _ => 1
def uptoBulkAll {H : Type} : List (DataW H) → Nat
  | [] => 0
  | d :: r => uptoBulk d + uptoBulkAll r
def uptoBulkEntries {H : Type} : List (Lit × DataW H) → Nat
  | [] => 0
  | x :: r => uptoBulkEntry x + uptoBulkEntries r
def uptoBulkEntry {H : Type} : Lit × DataW H → Nat
  | (.string bytes, d) => bytes.length + uptoBulk d + 1
  | (_, d) => uptoBulk d + 1
 end
def uptoSmall : (H : Type) → List (DataW H) → Bool := fun _ ds => decide (uptoBulkAll ds ≤ 1048576)
def OpenSpec.upto (s : _root_.Go.ChangeSpec) : _root_.Go.OpenSpec := { _root_.Go.OpenSpec.ofChange s with cond := some uptoSmall }

/-- 'breviarylaw05.FlowMakes', WHERE WHAT IT READS IS OF BULK AT MOST 1048576: true; the input reads as it did. -/
def flowMakesUptoRow : OpenClaim := { program := "ytobioeehfigmcaa", sum := "f06e98409d29a834425d5fd3a4f56d2552c5c03f274bbe7209cf7dbcb49cac30", func := "breviary/breviarylaw05.FlowMakes", spec := "flowMakes", unfollowed := true, recurses := true, apart := false, narrowed := true }
def FlowMakesUptoSaid : Prop := flowMakesUptoRow.holds Try.pinned (OpenSpec.upto flowMakesSpec)

/-- 'breviarylaw15.ExtentTells', WHERE WHAT IT READS IS OF BULK AT MOST 1048576: true; the input reads as it did. -/
def extentTellsUptoRow : OpenClaim := { program := "ytobioeehfigmcaa", sum := "f06e98409d29a834425d5fd3a4f56d2552c5c03f274bbe7209cf7dbcb49cac30", func := "breviary/breviarylaw15.ExtentTells", spec := "extentTells", unfollowed := true, recurses := true, apart := false, narrowed := true }
def ExtentTellsUptoSaid : Prop := extentTellsUptoRow.holds Try.pinned (OpenSpec.upto extentTellsSpec)

/-- 'breviarylaw22.PlanHolds', WHERE WHAT IT READS IS OF BULK AT MOST 1048576: true; the input reads as it did. -/
def planHoldsUptoRow : OpenClaim := { program := "ytobioeehfigmcaa", sum := "f06e98409d29a834425d5fd3a4f56d2552c5c03f274bbe7209cf7dbcb49cac30", func := "breviary/breviarylaw22.PlanHolds", spec := "planHolds", unfollowed := true, recurses := true, apart := false, narrowed := true }
def PlanHoldsUptoSaid : Prop := planHoldsUptoRow.holds Try.pinned (OpenSpec.upto planHoldsSpec)

/-- 'breviarylaw24.PruneKeeps', WHERE WHAT IT READS IS OF BULK AT MOST 1048576: true; the input reads as it did. -/
def pruneKeepsUptoRow : OpenClaim := { program := "ytobioeehfigmcaa", sum := "f06e98409d29a834425d5fd3a4f56d2552c5c03f274bbe7209cf7dbcb49cac30", func := "breviary/breviarylaw24.PruneKeeps", spec := "pruneKeeps", inPlace := ["slices.overlaps[breviary/order.pair[int, bool]]"], unfollowed := true, recurses := true, apart := false, narrowed := true }
def PruneKeepsUptoSaid : Prop := pruneKeepsUptoRow.holds Try.pinned (OpenSpec.upto pruneKeepsSpec)

end Rows
end Go.Proofs.Ytobioeehfigmcaa
