/-
  No cell of these rows narrows 'for every input' (looked for: loops, veiled, ifaces, maps, wideKeys, modest, calm, conditions, laid).
  DERIVED. THE GIVEN ROWS OF THIS SEAT. 9 by the template 'for every input the law returns true; each argument reads behind the call as it read before'; 0 by the template 'total and deterministic' (their statements: YtlcanmofgjbcbaaTotals.lean).
  GIVEN WITH THE SEED: the statements are not yours to turn. If you find one false, say at which input.
  Laid BY PROGRAM, IN A SANDBOX (cutbox-rows.mjs): the forced cells as the released guide's own fill.sh prints them over the translation 96d80a9003bf6424… (all of the seat's roots in one cut). By AI agents, Wed Nov 11 2026. No macro, syntax, notation, axiom, sorry.
-/
import Derived.Test.YtlcanmofgjbcbaaChecked
import GoSem.Claim
import GoSem.ClaimJoined
import GoSem.ClaimMapViews
import Derived.JoinedTies
import Derived.KernelRfl
namespace Go.Proofs.Ytlcanmofgjbcbaa
/- THE CELL 'sum', in the pinned program and in every row, IS THE sha256 OF THE DUMP (.gsa) THAT YtlcanmofgjbcbaaProg.lean LOADS. Nothing in Lean hashes anything: it is a label: what it is worth is what the hold of that sum in a sandbox is worth. -/
noncomputable def Try.pinned : Pinned := { name := "ytlcanmofgjbcbaa", sum := "96d80a9003bf64248acd61143c4b6860408fc8c7ba31415369182185446b3368", checked := Try.checked }
namespace Rows
def none {H : Type} : Left H := { results := [], args := [] }

/-- 'laws.FnPeriodSingle': WHATEVER THE INPUT: true; the input reads as it did. -/
def fnPeriodSingleSpec : ChangeSpec := { name := "fnPeriodSingle", fn := fun _ => fun
  | [d] => { results := [.lit (.bool true)], args := [d] }
  | _ => none }
def fnPeriodSingleRow : OpenClaim := { program := "ytlcanmofgjbcbaa", sum := "96d80a9003bf64248acd61143c4b6860408fc8c7ba31415369182185446b3368", func := "loop.example/rotorciphers/laws.FnPeriodSingle", spec := "fnPeriodSingle", inPlace := ["internal/bytealg.IndexByteString"], apart := false }
def FnPeriodSingleSaid : Prop := fnPeriodSingleRow.holds Try.pinned (OpenSpec.ofChange fnPeriodSingleSpec)

/-- ITS FALSE NEIGHBOUR: 'it returns false'. Refute it at one input. -/
def fnPeriodSingleWrong : ChangeSpec := { name := "fnPeriodSingle", fn := fun _ => fun
  | [d] => { results := [.lit (.bool false)], args := [d] }
  | _ => none }
def FnPeriodSingleWrongFalsely : Prop := fnPeriodSingleRow.holds Try.pinned (OpenSpec.ofChange fnPeriodSingleWrong)

/-- 'laws.FnLeadInSingle': WHATEVER THE INPUT: true; the input reads as it did. -/
def fnLeadInSingleSpec : ChangeSpec := { name := "fnLeadInSingle", fn := fun _ => fun
  | [d] => { results := [.lit (.bool true)], args := [d] }
  | _ => none }
def fnLeadInSingleRow : OpenClaim := { program := "ytlcanmofgjbcbaa", sum := "96d80a9003bf64248acd61143c4b6860408fc8c7ba31415369182185446b3368", func := "loop.example/rotorciphers/laws.FnLeadInSingle", spec := "fnLeadInSingle", inPlace := ["internal/bytealg.IndexByteString"], apart := false }
def FnLeadInSingleSaid : Prop := fnLeadInSingleRow.holds Try.pinned (OpenSpec.ofChange fnLeadInSingleSpec)

/-- ITS FALSE NEIGHBOUR: 'it returns false'. Refute it at one input. -/
def fnLeadInSingleWrong : ChangeSpec := { name := "fnLeadInSingle", fn := fun _ => fun
  | [d] => { results := [.lit (.bool false)], args := [d] }
  | _ => none }
def FnLeadInSingleWrongFalsely : Prop := fnLeadInSingleRow.holds Try.pinned (OpenSpec.ofChange fnLeadInSingleWrong)

/-- 'laws.FnStepsToAny': WHATEVER THE INPUT: true; the input reads as it did. -/
def fnStepsToAnySpec : ChangeSpec := { name := "fnStepsToAny", fn := fun _ => fun
  | [d] => { results := [.lit (.bool true)], args := [d] }
  | _ => none }
def fnStepsToAnyRow : OpenClaim := { program := "ytlcanmofgjbcbaa", sum := "96d80a9003bf64248acd61143c4b6860408fc8c7ba31415369182185446b3368", func := "loop.example/rotorciphers/laws.FnStepsToAny", spec := "fnStepsToAny", inPlace := ["internal/bytealg.IndexByteString"], apart := false }
def FnStepsToAnySaid : Prop := fnStepsToAnyRow.holds Try.pinned (OpenSpec.ofChange fnStepsToAnySpec)

/-- ITS FALSE NEIGHBOUR: 'it returns false'. Refute it at one input. -/
def fnStepsToAnyWrong : ChangeSpec := { name := "fnStepsToAny", fn := fun _ => fun
  | [d] => { results := [.lit (.bool false)], args := [d] }
  | _ => none }
def FnStepsToAnyWrongFalsely : Prop := fnStepsToAnyRow.holds Try.pinned (OpenSpec.ofChange fnStepsToAnyWrong)

/-- 'laws.FnPeriodRepeats': WHATEVER THE INPUT: true; the input reads as it did. -/
def fnPeriodRepeatsSpec : ChangeSpec := { name := "fnPeriodRepeats", fn := fun _ => fun
  | [d] => { results := [.lit (.bool true)], args := [d] }
  | _ => none }
def fnPeriodRepeatsRow : OpenClaim := { program := "ytlcanmofgjbcbaa", sum := "96d80a9003bf64248acd61143c4b6860408fc8c7ba31415369182185446b3368", func := "loop.example/rotorciphers/laws.FnPeriodRepeats", spec := "fnPeriodRepeats", inPlace := ["internal/bytealg.IndexByteString"], apart := false }
def FnPeriodRepeatsSaid : Prop := fnPeriodRepeatsRow.holds Try.pinned (OpenSpec.ofChange fnPeriodRepeatsSpec)

/-- ITS FALSE NEIGHBOUR: 'it returns false'. Refute it at one input. -/
def fnPeriodRepeatsWrong : ChangeSpec := { name := "fnPeriodRepeats", fn := fun _ => fun
  | [d] => { results := [.lit (.bool false)], args := [d] }
  | _ => none }
def FnPeriodRepeatsWrongFalsely : Prop := fnPeriodRepeatsRow.holds Try.pinned (OpenSpec.ofChange fnPeriodRepeatsWrong)

/-- 'laws.FnLeadInLeast': WHATEVER THE INPUT: true; the input reads as it did. -/
def fnLeadInLeastSpec : ChangeSpec := { name := "fnLeadInLeast", fn := fun _ => fun
  | [d] => { results := [.lit (.bool true)], args := [d] }
  | _ => none }
def fnLeadInLeastRow : OpenClaim := { program := "ytlcanmofgjbcbaa", sum := "96d80a9003bf64248acd61143c4b6860408fc8c7ba31415369182185446b3368", func := "loop.example/rotorciphers/laws.FnLeadInLeast", spec := "fnLeadInLeast", inPlace := ["internal/bytealg.IndexByteString"], apart := false }
def FnLeadInLeastSaid : Prop := fnLeadInLeastRow.holds Try.pinned (OpenSpec.ofChange fnLeadInLeastSpec)

/-- ITS FALSE NEIGHBOUR: 'it returns false'. Refute it at one input. -/
def fnLeadInLeastWrong : ChangeSpec := { name := "fnLeadInLeast", fn := fun _ => fun
  | [d] => { results := [.lit (.bool false)], args := [d] }
  | _ => none }
def FnLeadInLeastWrongFalsely : Prop := fnLeadInLeastRow.holds Try.pinned (OpenSpec.ofChange fnLeadInLeastWrong)

/-- 'laws.FnLeftMovesCycle': WHATEVER THE INPUT: true; the input reads as it did. -/
def fnLeftMovesCycleSpec : ChangeSpec := { name := "fnLeftMovesCycle", fn := fun _ => fun
  | [d] => { results := [.lit (.bool true)], args := [d] }
  | _ => none }
def fnLeftMovesCycleRow : OpenClaim := { program := "ytlcanmofgjbcbaa", sum := "96d80a9003bf64248acd61143c4b6860408fc8c7ba31415369182185446b3368", func := "loop.example/rotorciphers/laws.FnLeftMovesCycle", spec := "fnLeftMovesCycle", inPlace := ["internal/bytealg.IndexByteString"], apart := false }
def FnLeftMovesCycleSaid : Prop := fnLeftMovesCycleRow.holds Try.pinned (OpenSpec.ofChange fnLeftMovesCycleSpec)

/-- ITS FALSE NEIGHBOUR: 'it returns false'. Refute it at one input. -/
def fnLeftMovesCycleWrong : ChangeSpec := { name := "fnLeftMovesCycle", fn := fun _ => fun
  | [d] => { results := [.lit (.bool false)], args := [d] }
  | _ => none }
def FnLeftMovesCycleWrongFalsely : Prop := fnLeftMovesCycleRow.holds Try.pinned (OpenSpec.ofChange fnLeftMovesCycleWrong)

/-- 'laws.FnPeriodLeast': WHATEVER THE INPUT: true; the input reads as it did. -/
def fnPeriodLeastSpec : ChangeSpec := { name := "fnPeriodLeast", fn := fun _ => fun
  | [d] => { results := [.lit (.bool true)], args := [d] }
  | _ => none }
def fnPeriodLeastRow : OpenClaim := { program := "ytlcanmofgjbcbaa", sum := "96d80a9003bf64248acd61143c4b6860408fc8c7ba31415369182185446b3368", func := "loop.example/rotorciphers/laws.FnPeriodLeast", spec := "fnPeriodLeast", inPlace := ["internal/bytealg.IndexByteString"], apart := false }
def FnPeriodLeastSaid : Prop := fnPeriodLeastRow.holds Try.pinned (OpenSpec.ofChange fnPeriodLeastSpec)

/-- ITS FALSE NEIGHBOUR: 'it returns false'. Refute it at one input. -/
def fnPeriodLeastWrong : ChangeSpec := { name := "fnPeriodLeast", fn := fun _ => fun
  | [d] => { results := [.lit (.bool false)], args := [d] }
  | _ => none }
def FnPeriodLeastWrongFalsely : Prop := fnPeriodLeastRow.holds Try.pinned (OpenSpec.ofChange fnPeriodLeastWrong)

/-- 'laws.FnStepsToLeast': WHATEVER THE INPUT: true; the input reads as it did. -/
def fnStepsToLeastSpec : ChangeSpec := { name := "fnStepsToLeast", fn := fun _ => fun
  | [d] => { results := [.lit (.bool true)], args := [d] }
  | _ => none }
def fnStepsToLeastRow : OpenClaim := { program := "ytlcanmofgjbcbaa", sum := "96d80a9003bf64248acd61143c4b6860408fc8c7ba31415369182185446b3368", func := "loop.example/rotorciphers/laws.FnStepsToLeast", spec := "fnStepsToLeast", inPlace := ["internal/bytealg.IndexByteString"], apart := false }
def FnStepsToLeastSaid : Prop := fnStepsToLeastRow.holds Try.pinned (OpenSpec.ofChange fnStepsToLeastSpec)

/-- ITS FALSE NEIGHBOUR: 'it returns false'. Refute it at one input. -/
def fnStepsToLeastWrong : ChangeSpec := { name := "fnStepsToLeast", fn := fun _ => fun
  | [d] => { results := [.lit (.bool false)], args := [d] }
  | _ => none }
def FnStepsToLeastWrongFalsely : Prop := fnStepsToLeastRow.holds Try.pinned (OpenSpec.ofChange fnStepsToLeastWrong)

/-- 'laws.FnWholeSteps': WHATEVER THE INPUT: true; the input reads as it did. -/
def fnWholeStepsSpec : ChangeSpec := { name := "fnWholeSteps", fn := fun _ => fun
  | [d1, d2] => { results := [.lit (.bool true)], args := [d1, d2] }
  | _ => none }
def fnWholeStepsRow : OpenClaim := { program := "ytlcanmofgjbcbaa", sum := "96d80a9003bf64248acd61143c4b6860408fc8c7ba31415369182185446b3368", func := "loop.example/rotorciphers/laws.FnWholeSteps", spec := "fnWholeSteps", inPlace := ["internal/bytealg.IndexByteString"], apart := false }
def FnWholeStepsSaid : Prop := fnWholeStepsRow.holds Try.pinned (OpenSpec.ofChange fnWholeStepsSpec)

/-- ITS FALSE NEIGHBOUR: 'it returns false'. Refute it at one input. -/
def fnWholeStepsWrong : ChangeSpec := { name := "fnWholeSteps", fn := fun _ => fun
  | [d1, d2] => { results := [.lit (.bool false)], args := [d1, d2] }
  | _ => none }
def FnWholeStepsWrongFalsely : Prop := fnWholeStepsRow.holds Try.pinned (OpenSpec.ofChange fnWholeStepsWrong)

/- THE SECOND FORM. 'bulk': how many values and letters a reading holds, each counted each time it is reached (what is shared counts as often as it is met; a slice's spare places count too). A statement '..UptoSaid' is the law's where the arguments, and the package variables that the reading takes, are together of bulk at most 1048576: NARROWER than '..Said'. Prove '..Said' where nothing that the law and all that it calls make is longer than what came in: it says more and counts as full. Else prove '..UptoSaid'. A law counts once. -/
mutual
def uptoBulk {H : Type} : DataW H → Nat
  | .lit (.string bytes) => bytes.length + 1
  | .lit _ => 1
  | .nil => 1
  | .ptr d => uptoBulk d + 1
  | .slice elems spare => uptoBulkAll elems + uptoBulkAll spare + 1
  | .agg parts => uptoBulkAll parts + 1
  | .iface _ d => uptoBulk d + 1
  | .map entries => uptoBulkEntries entries + 1
  | .held _ => 1
def uptoBulkAll {H : Type} : List (DataW H) → Nat
  | [] => 0
  | d :: r => uptoBulk d + uptoBulkAll r
def uptoBulkEntries {H : Type} : List (Lit × DataW H) → Nat
  | [] => 0
  | x :: r => uptoBulkEntry x + uptoBulkEntries r
def uptoBulkEntry {H : Type} : Lit × DataW H → Nat
  | (.string bytes, d) => bytes.length + uptoBulk d + 1
  | (_, d) => uptoBulk d + 1
 end
def uptoSmall : (H : Type) → List (DataW H) → Bool := fun _ ds => decide (uptoBulkAll ds ≤ 1048576)
def OpenSpec.upto (s : _root_.Go.ChangeSpec) : _root_.Go.OpenSpec := { _root_.Go.OpenSpec.ofChange s with cond := some uptoSmall }

/-- 'laws.FnPeriodSingle', WHERE WHAT IT READS IS OF BULK AT MOST 1048576: true; the input reads as it did. -/
def fnPeriodSingleUptoRow : OpenClaim := { program := "ytlcanmofgjbcbaa", sum := "96d80a9003bf64248acd61143c4b6860408fc8c7ba31415369182185446b3368", func := "loop.example/rotorciphers/laws.FnPeriodSingle", spec := "fnPeriodSingle", inPlace := ["internal/bytealg.IndexByteString"], apart := false, narrowed := true }
def FnPeriodSingleUptoSaid : Prop := fnPeriodSingleUptoRow.holds Try.pinned (OpenSpec.upto fnPeriodSingleSpec)

/-- 'laws.FnLeadInSingle', WHERE WHAT IT READS IS OF BULK AT MOST 1048576: true; the input reads as it did. -/
def fnLeadInSingleUptoRow : OpenClaim := { program := "ytlcanmofgjbcbaa", sum := "96d80a9003bf64248acd61143c4b6860408fc8c7ba31415369182185446b3368", func := "loop.example/rotorciphers/laws.FnLeadInSingle", spec := "fnLeadInSingle", inPlace := ["internal/bytealg.IndexByteString"], apart := false, narrowed := true }
def FnLeadInSingleUptoSaid : Prop := fnLeadInSingleUptoRow.holds Try.pinned (OpenSpec.upto fnLeadInSingleSpec)

/-- 'laws.FnStepsToAny', WHERE WHAT IT READS IS OF BULK AT MOST 1048576: true; the input reads as it did. -/
def fnStepsToAnyUptoRow : OpenClaim := { program := "ytlcanmofgjbcbaa", sum := "96d80a9003bf64248acd61143c4b6860408fc8c7ba31415369182185446b3368", func := "loop.example/rotorciphers/laws.FnStepsToAny", spec := "fnStepsToAny", inPlace := ["internal/bytealg.IndexByteString"], apart := false, narrowed := true }
def FnStepsToAnyUptoSaid : Prop := fnStepsToAnyUptoRow.holds Try.pinned (OpenSpec.upto fnStepsToAnySpec)

/-- 'laws.FnPeriodRepeats', WHERE WHAT IT READS IS OF BULK AT MOST 1048576: true; the input reads as it did. -/
def fnPeriodRepeatsUptoRow : OpenClaim := { program := "ytlcanmofgjbcbaa", sum := "96d80a9003bf64248acd61143c4b6860408fc8c7ba31415369182185446b3368", func := "loop.example/rotorciphers/laws.FnPeriodRepeats", spec := "fnPeriodRepeats", inPlace := ["internal/bytealg.IndexByteString"], apart := false, narrowed := true }
def FnPeriodRepeatsUptoSaid : Prop := fnPeriodRepeatsUptoRow.holds Try.pinned (OpenSpec.upto fnPeriodRepeatsSpec)

/-- 'laws.FnLeadInLeast', WHERE WHAT IT READS IS OF BULK AT MOST 1048576: true; the input reads as it did. -/
def fnLeadInLeastUptoRow : OpenClaim := { program := "ytlcanmofgjbcbaa", sum := "96d80a9003bf64248acd61143c4b6860408fc8c7ba31415369182185446b3368", func := "loop.example/rotorciphers/laws.FnLeadInLeast", spec := "fnLeadInLeast", inPlace := ["internal/bytealg.IndexByteString"], apart := false, narrowed := true }
def FnLeadInLeastUptoSaid : Prop := fnLeadInLeastUptoRow.holds Try.pinned (OpenSpec.upto fnLeadInLeastSpec)

/-- 'laws.FnLeftMovesCycle', WHERE WHAT IT READS IS OF BULK AT MOST 1048576: true; the input reads as it did. -/
def fnLeftMovesCycleUptoRow : OpenClaim := { program := "ytlcanmofgjbcbaa", sum := "96d80a9003bf64248acd61143c4b6860408fc8c7ba31415369182185446b3368", func := "loop.example/rotorciphers/laws.FnLeftMovesCycle", spec := "fnLeftMovesCycle", inPlace := ["internal/bytealg.IndexByteString"], apart := false, narrowed := true }
def FnLeftMovesCycleUptoSaid : Prop := fnLeftMovesCycleUptoRow.holds Try.pinned (OpenSpec.upto fnLeftMovesCycleSpec)

/-- 'laws.FnPeriodLeast', WHERE WHAT IT READS IS OF BULK AT MOST 1048576: true; the input reads as it did. -/
def fnPeriodLeastUptoRow : OpenClaim := { program := "ytlcanmofgjbcbaa", sum := "96d80a9003bf64248acd61143c4b6860408fc8c7ba31415369182185446b3368", func := "loop.example/rotorciphers/laws.FnPeriodLeast", spec := "fnPeriodLeast", inPlace := ["internal/bytealg.IndexByteString"], apart := false, narrowed := true }
def FnPeriodLeastUptoSaid : Prop := fnPeriodLeastUptoRow.holds Try.pinned (OpenSpec.upto fnPeriodLeastSpec)

/-- 'laws.FnStepsToLeast', WHERE WHAT IT READS IS OF BULK AT MOST 1048576: true; the input reads as it did. -/
def fnStepsToLeastUptoRow : OpenClaim := { program := "ytlcanmofgjbcbaa", sum := "96d80a9003bf64248acd61143c4b6860408fc8c7ba31415369182185446b3368", func := "loop.example/rotorciphers/laws.FnStepsToLeast", spec := "fnStepsToLeast", inPlace := ["internal/bytealg.IndexByteString"], apart := false, narrowed := true }
def FnStepsToLeastUptoSaid : Prop := fnStepsToLeastUptoRow.holds Try.pinned (OpenSpec.upto fnStepsToLeastSpec)

/-- 'laws.FnWholeSteps', WHERE WHAT IT READS IS OF BULK AT MOST 1048576: true; the input reads as it did. -/
def fnWholeStepsUptoRow : OpenClaim := { program := "ytlcanmofgjbcbaa", sum := "96d80a9003bf64248acd61143c4b6860408fc8c7ba31415369182185446b3368", func := "loop.example/rotorciphers/laws.FnWholeSteps", spec := "fnWholeSteps", inPlace := ["internal/bytealg.IndexByteString"], apart := false, narrowed := true }
def FnWholeStepsUptoSaid : Prop := fnWholeStepsUptoRow.holds Try.pinned (OpenSpec.upto fnWholeStepsSpec)

end Rows
end Go.Proofs.Ytlcanmofgjbcbaa
