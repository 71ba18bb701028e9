/-
  No cell of these rows narrows 'for every input' (looked for: loops, veiled, ifaces, maps, wideKeys, modest, calm, conditions, laid).
  DERIVED. THE GIVEN ROWS OF THIS SEAT. 9 by the template 'for every input the law returns true; each argument reads behind the call as it read before'; 0 by the template 'total and deterministic' (their statements: YtnjmjgnmbjbfpaaTotals.lean).
  GIVEN WITH THE SEED: the statements are not yours to turn. If you find one false, say at which input.
  Laid BY PROGRAM, IN A SANDBOX (cutbox-rows.mjs): the forced cells as the released guide's own fill.sh prints them over the translation 333ca62b974ae6b1… (all of the seat's roots in one cut). By AI agents, Wed Nov 11 2026. No macro, syntax, notation, axiom, sorry.
-/
import Derived.Test.YtnjmjgnmbjbfpaaChecked
import GoSem.Claim
import GoSem.ClaimJoined
import GoSem.ClaimMapViews
import Derived.JoinedTies
import Derived.KernelRfl
namespace Go.Proofs.Ytnjmjgnmbjbfpaa
/- THE CELL 'sum', in the pinned program and in every row, IS THE sha256 OF THE DUMP (.gsa) THAT YtnjmjgnmbjbfpaaProg.lean LOADS. Nothing in Lean hashes anything: it is a label: what it is worth is what the hold of that sum in a sandbox is worth. -/
noncomputable def Try.pinned : Pinned := { name := "ytnjmjgnmbjbfpaa", sum := "333ca62b974ae6b1832593509c1fbc101cd1379127a3dbf2261d15f90e1f7df1", checked := Try.checked }
namespace Rows
def none {H : Type} : Left H := { results := [], args := [] }

/-- 'laws.FnDoubleRead': WHATEVER THE INPUT: true; the input reads as it did. -/
def fnDoubleReadSpec : ChangeSpec := { name := "fnDoubleRead", fn := fun _ => fun
  | [d] => { results := [.lit (.bool true)], args := [d] }
  | _ => none }
def fnDoubleReadRow : OpenClaim := { program := "ytnjmjgnmbjbfpaa", sum := "333ca62b974ae6b1832593509c1fbc101cd1379127a3dbf2261d15f90e1f7df1", func := "loop.example/rotorciphers/laws.FnDoubleRead", spec := "fnDoubleRead", inPlace := ["internal/bytealg.IndexByteString"], unfollowed := true, recurses := true, apart := false }
def FnDoubleReadSaid : Prop := fnDoubleReadRow.holds Try.pinned (OpenSpec.ofChange fnDoubleReadSpec)

/-- ITS FALSE NEIGHBOUR: 'it returns false'. Refute it at one input. -/
def fnDoubleReadWrong : ChangeSpec := { name := "fnDoubleRead", fn := fun _ => fun
  | [d] => { results := [.lit (.bool false)], args := [d] }
  | _ => none }
def FnDoubleReadWrongFalsely : Prop := fnDoubleReadRow.holds Try.pinned (OpenSpec.ofChange fnDoubleReadWrong)

/-- 'laws.FnKeyPermsLater': WHATEVER THE INPUT: true; the input reads as it did. -/
def fnKeyPermsLaterSpec : ChangeSpec := { name := "fnKeyPermsLater", fn := fun _ => fun
  | [d] => { results := [.lit (.bool true)], args := [d] }
  | _ => none }
def fnKeyPermsLaterRow : OpenClaim := { program := "ytnjmjgnmbjbfpaa", sum := "333ca62b974ae6b1832593509c1fbc101cd1379127a3dbf2261d15f90e1f7df1", func := "loop.example/rotorciphers/laws.FnKeyPermsLater", spec := "fnKeyPermsLater", inPlace := ["internal/bytealg.IndexByteString"], unfollowed := true, recurses := true, apart := false }
def FnKeyPermsLaterSaid : Prop := fnKeyPermsLaterRow.holds Try.pinned (OpenSpec.ofChange fnKeyPermsLaterSpec)

/-- ITS FALSE NEIGHBOUR: 'it returns false'. Refute it at one input. -/
def fnKeyPermsLaterWrong : ChangeSpec := { name := "fnKeyPermsLater", fn := fun _ => fun
  | [d] => { results := [.lit (.bool false)], args := [d] }
  | _ => none }
def FnKeyPermsLaterWrongFalsely : Prop := fnKeyPermsLaterRow.holds Try.pinned (OpenSpec.ofChange fnKeyPermsLaterWrong)

/-- 'laws.FnEncipherParts': WHATEVER THE INPUT: true; the input reads as it did. -/
def fnEncipherPartsSpec : ChangeSpec := { name := "fnEncipherParts", fn := fun _ => fun
  | [d1, d2] => { results := [.lit (.bool true)], args := [d1, d2] }
  | _ => none }
def fnEncipherPartsRow : OpenClaim := { program := "ytnjmjgnmbjbfpaa", sum := "333ca62b974ae6b1832593509c1fbc101cd1379127a3dbf2261d15f90e1f7df1", func := "loop.example/rotorciphers/laws.FnEncipherParts", spec := "fnEncipherParts", inPlace := ["internal/bytealg.IndexByteString"], unfollowed := true, recurses := true, apart := false }
def FnEncipherPartsSaid : Prop := fnEncipherPartsRow.holds Try.pinned (OpenSpec.ofChange fnEncipherPartsSpec)

/-- ITS FALSE NEIGHBOUR: 'it returns false'. Refute it at one input. -/
def fnEncipherPartsWrong : ChangeSpec := { name := "fnEncipherParts", fn := fun _ => fun
  | [d1, d2] => { results := [.lit (.bool false)], args := [d1, d2] }
  | _ => none }
def FnEncipherPartsWrongFalsely : Prop := fnEncipherPartsRow.holds Try.pinned (OpenSpec.ofChange fnEncipherPartsWrong)

/-- 'laws.FnEncipherTwice': WHATEVER THE INPUT: true; the input reads as it did. -/
def fnEncipherTwiceSpec : ChangeSpec := { name := "fnEncipherTwice", fn := fun _ => fun
  | [d] => { results := [.lit (.bool true)], args := [d] }
  | _ => none }
def fnEncipherTwiceRow : OpenClaim := { program := "ytnjmjgnmbjbfpaa", sum := "333ca62b974ae6b1832593509c1fbc101cd1379127a3dbf2261d15f90e1f7df1", func := "loop.example/rotorciphers/laws.FnEncipherTwice", spec := "fnEncipherTwice", inPlace := ["internal/bytealg.IndexByteString"], unfollowed := true, recurses := true, apart := false }
def FnEncipherTwiceSaid : Prop := fnEncipherTwiceRow.holds Try.pinned (OpenSpec.ofChange fnEncipherTwiceSpec)

/-- ITS FALSE NEIGHBOUR: 'it returns false'. Refute it at one input. -/
def fnEncipherTwiceWrong : ChangeSpec := { name := "fnEncipherTwice", fn := fun _ => fun
  | [d] => { results := [.lit (.bool false)], args := [d] }
  | _ => none }
def FnEncipherTwiceWrongFalsely : Prop := fnEncipherTwiceRow.holds Try.pinned (OpenSpec.ofChange fnEncipherTwiceWrong)

/-- 'laws.FnKeyPermsSteps': WHATEVER THE INPUT: true; the input reads as it did. -/
def fnKeyPermsStepsSpec : ChangeSpec := { name := "fnKeyPermsSteps", fn := fun _ => fun
  | [d] => { results := [.lit (.bool true)], args := [d] }
  | _ => none }
def fnKeyPermsStepsRow : OpenClaim := { program := "ytnjmjgnmbjbfpaa", sum := "333ca62b974ae6b1832593509c1fbc101cd1379127a3dbf2261d15f90e1f7df1", func := "loop.example/rotorciphers/laws.FnKeyPermsSteps", spec := "fnKeyPermsSteps", inPlace := ["internal/bytealg.IndexByteString"], unfollowed := true, recurses := true, apart := false }
def FnKeyPermsStepsSaid : Prop := fnKeyPermsStepsRow.holds Try.pinned (OpenSpec.ofChange fnKeyPermsStepsSpec)

/-- ITS FALSE NEIGHBOUR: 'it returns false'. Refute it at one input. -/
def fnKeyPermsStepsWrong : ChangeSpec := { name := "fnKeyPermsSteps", fn := fun _ => fun
  | [d] => { results := [.lit (.bool false)], args := [d] }
  | _ => none }
def FnKeyPermsStepsWrongFalsely : Prop := fnKeyPermsStepsRow.holds Try.pinned (OpenSpec.ofChange fnKeyPermsStepsWrong)

/-- 'laws.FnEncipherDepth': WHATEVER THE INPUT: true; the input reads as it did. -/
def fnEncipherDepthSpec : ChangeSpec := { name := "fnEncipherDepth", fn := fun _ => fun
  | [d1, d2] => { results := [.lit (.bool true)], args := [d1, d2] }
  | _ => none }
def fnEncipherDepthRow : OpenClaim := { program := "ytnjmjgnmbjbfpaa", sum := "333ca62b974ae6b1832593509c1fbc101cd1379127a3dbf2261d15f90e1f7df1", func := "loop.example/rotorciphers/laws.FnEncipherDepth", spec := "fnEncipherDepth", inPlace := ["internal/bytealg.IndexByteString"], unfollowed := true, recurses := true, apart := false }
def FnEncipherDepthSaid : Prop := fnEncipherDepthRow.holds Try.pinned (OpenSpec.ofChange fnEncipherDepthSpec)

/-- ITS FALSE NEIGHBOUR: 'it returns false'. Refute it at one input. -/
def fnEncipherDepthWrong : ChangeSpec := { name := "fnEncipherDepth", fn := fun _ => fun
  | [d1, d2] => { results := [.lit (.bool false)], args := [d1, d2] }
  | _ => none }
def FnEncipherDepthWrongFalsely : Prop := fnEncipherDepthRow.holds Try.pinned (OpenSpec.ofChange fnEncipherDepthWrong)

/-- 'laws.FnSealPrefix': WHATEVER THE INPUT: true; the input reads as it did. -/
def fnSealPrefixSpec : ChangeSpec := { name := "fnSealPrefix", fn := fun _ => fun
  | [d1, d2] => { results := [.lit (.bool true)], args := [d1, d2] }
  | _ => none }
def fnSealPrefixRow : OpenClaim := { program := "ytnjmjgnmbjbfpaa", sum := "333ca62b974ae6b1832593509c1fbc101cd1379127a3dbf2261d15f90e1f7df1", func := "loop.example/rotorciphers/laws.FnSealPrefix", spec := "fnSealPrefix", inPlace := ["internal/bytealg.IndexByteString"], unfollowed := true, recurses := true, apart := false }
def FnSealPrefixSaid : Prop := fnSealPrefixRow.holds Try.pinned (OpenSpec.ofChange fnSealPrefixSpec)

/-- ITS FALSE NEIGHBOUR: 'it returns false'. Refute it at one input. -/
def fnSealPrefixWrong : ChangeSpec := { name := "fnSealPrefix", fn := fun _ => fun
  | [d1, d2] => { results := [.lit (.bool false)], args := [d1, d2] }
  | _ => none }
def FnSealPrefixWrongFalsely : Prop := fnSealPrefixRow.holds Try.pinned (OpenSpec.ofChange fnSealPrefixWrong)

/-- 'laws.FnReadDoubleOne': WHATEVER THE INPUT: true; the input reads as it did. -/
def fnReadDoubleOneSpec : ChangeSpec := { name := "fnReadDoubleOne", fn := fun _ => fun
  | [d] => { results := [.lit (.bool true)], args := [d] }
  | _ => none }
def fnReadDoubleOneRow : OpenClaim := { program := "ytnjmjgnmbjbfpaa", sum := "333ca62b974ae6b1832593509c1fbc101cd1379127a3dbf2261d15f90e1f7df1", func := "loop.example/rotorciphers/laws.FnReadDoubleOne", spec := "fnReadDoubleOne", inPlace := ["internal/bytealg.IndexByteString"], unfollowed := true, recurses := true, apart := false }
def FnReadDoubleOneSaid : Prop := fnReadDoubleOneRow.holds Try.pinned (OpenSpec.ofChange fnReadDoubleOneSpec)

/-- ITS FALSE NEIGHBOUR: 'it returns false'. Refute it at one input. -/
def fnReadDoubleOneWrong : ChangeSpec := { name := "fnReadDoubleOne", fn := fun _ => fun
  | [d] => { results := [.lit (.bool false)], args := [d] }
  | _ => none }
def FnReadDoubleOneWrongFalsely : Prop := fnReadDoubleOneRow.holds Try.pinned (OpenSpec.ofChange fnReadDoubleOneWrong)

/-- 'laws.FnReadDouble': WHATEVER THE INPUT: true; the input reads as it did. -/
def fnReadDoubleSpec : ChangeSpec := { name := "fnReadDouble", fn := fun _ => fun
  | [d] => { results := [.lit (.bool true)], args := [d] }
  | _ => none }
def fnReadDoubleRow : OpenClaim := { program := "ytnjmjgnmbjbfpaa", sum := "333ca62b974ae6b1832593509c1fbc101cd1379127a3dbf2261d15f90e1f7df1", func := "loop.example/rotorciphers/laws.FnReadDouble", spec := "fnReadDouble", inPlace := ["internal/bytealg.IndexByteString"], unfollowed := true, recurses := true, apart := false }
def FnReadDoubleSaid : Prop := fnReadDoubleRow.holds Try.pinned (OpenSpec.ofChange fnReadDoubleSpec)

/-- ITS FALSE NEIGHBOUR: 'it returns false'. Refute it at one input. -/
def fnReadDoubleWrong : ChangeSpec := { name := "fnReadDouble", fn := fun _ => fun
  | [d] => { results := [.lit (.bool false)], args := [d] }
  | _ => none }
def FnReadDoubleWrongFalsely : Prop := fnReadDoubleRow.holds Try.pinned (OpenSpec.ofChange fnReadDoubleWrong)

/- THE SECOND FORM. 'bulk': how many values and letters a reading holds, each counted each time it is reached (what is shared counts as often as it is met; a slice's spare places count too). A statement '..UptoSaid' is the law's where the arguments, and the package variables that the reading takes, are together of bulk at most 1048576: NARROWER than '..Said'. Prove '..Said' where nothing that the law and all that it calls make is longer than what came in: it says more and counts as full. Else prove '..UptoSaid'. A law counts once. -/
mutual
def uptoBulk {H : Type} : DataW H → Nat
  | .lit (.string bytes) => bytes.length + 1
  | .lit _ => 1
  | .nil => 1
  | .ptr d => uptoBulk d + 1
  | .slice elems spare => uptoBulkAll elems + uptoBulkAll spare + 1
  | .agg parts => uptoBulkAll parts + 1
  | .iface _ d => uptoBulk d + 1
  | .map entries => uptoBulkEntries entries + 1
  | .held _ => 1
def uptoBulkAll {H : Type} : List (DataW H) → Nat
  | [] => 0
  | d :: r => uptoBulk d + uptoBulkAll r
def uptoBulkEntries {H : Type} : List (Lit × DataW H) → Nat
  | [] => 0
  | x :: r => uptoBulkEntry x + uptoBulkEntries r
def uptoBulkEntry {H : Type} : Lit × DataW H → Nat
  | (.string bytes, d) => bytes.length + uptoBulk d + 1
  | (_, d) => uptoBulk d + 1
 end
def uptoSmall : (H : Type) → List (DataW H) → Bool := fun _ ds => decide (uptoBulkAll ds ≤ 1048576)
def OpenSpec.upto (s : _root_.Go.ChangeSpec) : _root_.Go.OpenSpec := { _root_.Go.OpenSpec.ofChange s with cond := some uptoSmall }

/-- 'laws.FnDoubleRead', WHERE WHAT IT READS IS OF BULK AT MOST 1048576: true; the input reads as it did. -/
def fnDoubleReadUptoRow : OpenClaim := { program := "ytnjmjgnmbjbfpaa", sum := "333ca62b974ae6b1832593509c1fbc101cd1379127a3dbf2261d15f90e1f7df1", func := "loop.example/rotorciphers/laws.FnDoubleRead", spec := "fnDoubleRead", inPlace := ["internal/bytealg.IndexByteString"], unfollowed := true, recurses := true, apart := false, narrowed := true }
def FnDoubleReadUptoSaid : Prop := fnDoubleReadUptoRow.holds Try.pinned (OpenSpec.upto fnDoubleReadSpec)

/-- 'laws.FnKeyPermsLater', WHERE WHAT IT READS IS OF BULK AT MOST 1048576: true; the input reads as it did. -/
def fnKeyPermsLaterUptoRow : OpenClaim := { program := "ytnjmjgnmbjbfpaa", sum := "333ca62b974ae6b1832593509c1fbc101cd1379127a3dbf2261d15f90e1f7df1", func := "loop.example/rotorciphers/laws.FnKeyPermsLater", spec := "fnKeyPermsLater", inPlace := ["internal/bytealg.IndexByteString"], unfollowed := true, recurses := true, apart := false, narrowed := true }
def FnKeyPermsLaterUptoSaid : Prop := fnKeyPermsLaterUptoRow.holds Try.pinned (OpenSpec.upto fnKeyPermsLaterSpec)

/-- 'laws.FnEncipherParts', WHERE WHAT IT READS IS OF BULK AT MOST 1048576: true; the input reads as it did. -/
def fnEncipherPartsUptoRow : OpenClaim := { program := "ytnjmjgnmbjbfpaa", sum := "333ca62b974ae6b1832593509c1fbc101cd1379127a3dbf2261d15f90e1f7df1", func := "loop.example/rotorciphers/laws.FnEncipherParts", spec := "fnEncipherParts", inPlace := ["internal/bytealg.IndexByteString"], unfollowed := true, recurses := true, apart := false, narrowed := true }
def FnEncipherPartsUptoSaid : Prop := fnEncipherPartsUptoRow.holds Try.pinned (OpenSpec.upto fnEncipherPartsSpec)

/-- 'laws.FnEncipherTwice', WHERE WHAT IT READS IS OF BULK AT MOST 1048576: true; the input reads as it did. -/
def fnEncipherTwiceUptoRow : OpenClaim := { program := "ytnjmjgnmbjbfpaa", sum := "333ca62b974ae6b1832593509c1fbc101cd1379127a3dbf2261d15f90e1f7df1", func := "loop.example/rotorciphers/laws.FnEncipherTwice", spec := "fnEncipherTwice", inPlace := ["internal/bytealg.IndexByteString"], unfollowed := true, recurses := true, apart := false, narrowed := true }
def FnEncipherTwiceUptoSaid : Prop := fnEncipherTwiceUptoRow.holds Try.pinned (OpenSpec.upto fnEncipherTwiceSpec)

/-- 'laws.FnKeyPermsSteps', WHERE WHAT IT READS IS OF BULK AT MOST 1048576: true; the input reads as it did. -/
def fnKeyPermsStepsUptoRow : OpenClaim := { program := "ytnjmjgnmbjbfpaa", sum := "333ca62b974ae6b1832593509c1fbc101cd1379127a3dbf2261d15f90e1f7df1", func := "loop.example/rotorciphers/laws.FnKeyPermsSteps", spec := "fnKeyPermsSteps", inPlace := ["internal/bytealg.IndexByteString"], unfollowed := true, recurses := true, apart := false, narrowed := true }
def FnKeyPermsStepsUptoSaid : Prop := fnKeyPermsStepsUptoRow.holds Try.pinned (OpenSpec.upto fnKeyPermsStepsSpec)

/-- 'laws.FnEncipherDepth', WHERE WHAT IT READS IS OF BULK AT MOST 1048576: true; the input reads as it did. -/
def fnEncipherDepthUptoRow : OpenClaim := { program := "ytnjmjgnmbjbfpaa", sum := "333ca62b974ae6b1832593509c1fbc101cd1379127a3dbf2261d15f90e1f7df1", func := "loop.example/rotorciphers/laws.FnEncipherDepth", spec := "fnEncipherDepth", inPlace := ["internal/bytealg.IndexByteString"], unfollowed := true, recurses := true, apart := false, narrowed := true }
def FnEncipherDepthUptoSaid : Prop := fnEncipherDepthUptoRow.holds Try.pinned (OpenSpec.upto fnEncipherDepthSpec)

/-- 'laws.FnSealPrefix', WHERE WHAT IT READS IS OF BULK AT MOST 1048576: true; the input reads as it did. -/
def fnSealPrefixUptoRow : OpenClaim := { program := "ytnjmjgnmbjbfpaa", sum := "333ca62b974ae6b1832593509c1fbc101cd1379127a3dbf2261d15f90e1f7df1", func := "loop.example/rotorciphers/laws.FnSealPrefix", spec := "fnSealPrefix", inPlace := ["internal/bytealg.IndexByteString"], unfollowed := true, recurses := true, apart := false, narrowed := true }
def FnSealPrefixUptoSaid : Prop := fnSealPrefixUptoRow.holds Try.pinned (OpenSpec.upto fnSealPrefixSpec)

/-- 'laws.FnReadDoubleOne', WHERE WHAT IT READS IS OF BULK AT MOST 1048576: true; the input reads as it did. -/
def fnReadDoubleOneUptoRow : OpenClaim := { program := "ytnjmjgnmbjbfpaa", sum := "333ca62b974ae6b1832593509c1fbc101cd1379127a3dbf2261d15f90e1f7df1", func := "loop.example/rotorciphers/laws.FnReadDoubleOne", spec := "fnReadDoubleOne", inPlace := ["internal/bytealg.IndexByteString"], unfollowed := true, recurses := true, apart := false, narrowed := true }
def FnReadDoubleOneUptoSaid : Prop := fnReadDoubleOneUptoRow.holds Try.pinned (OpenSpec.upto fnReadDoubleOneSpec)

/-- 'laws.FnReadDouble', WHERE WHAT IT READS IS OF BULK AT MOST 1048576: true; the input reads as it did. -/
def fnReadDoubleUptoRow : OpenClaim := { program := "ytnjmjgnmbjbfpaa", sum := "333ca62b974ae6b1832593509c1fbc101cd1379127a3dbf2261d15f90e1f7df1", func := "loop.example/rotorciphers/laws.FnReadDouble", spec := "fnReadDouble", inPlace := ["internal/bytealg.IndexByteString"], unfollowed := true, recurses := true, apart := false, narrowed := true }
def FnReadDoubleUptoSaid : Prop := fnReadDoubleUptoRow.holds Try.pinned (OpenSpec.upto fnReadDoubleSpec)

end Rows
end Go.Proofs.Ytnjmjgnmbjbfpaa
