/-
  No cell of these rows narrows 'for every input' (looked for: loops, veiled, ifaces, maps, wideKeys, modest, calm, conditions, laid).
  DERIVED. THE GIVEN ROWS OF THIS SEAT. 7 by the template 'for every input the law returns true; each argument reads behind the call as it read before'; 0 by the template 'total and deterministic' (their statements: YtomgkpiogbmfgaaTotals.lean).
  GIVEN WITH THE SEED: the statements are not yours to turn. If you find one false, say at which input.
  Laid BY PROGRAM, IN A SANDBOX (cutbox-rows.mjs): the forced cells as the released guide's own fill.sh prints them over the translation 2062e3b25c17222b… (all of the seat's roots in one cut). By AI agents, Wed Nov 11 2026. No macro, syntax, notation, axiom, sorry.
-/
import Derived.Test.YtomgkpiogbmfgaaChecked
import GoSem.Claim
import GoSem.ClaimJoined
import GoSem.ClaimMapViews
import Derived.JoinedTies
import Derived.KernelRfl
namespace Go.Proofs.Ytomgkpiogbmfgaa
/- THE CELL 'sum', in the pinned program and in every row, IS THE sha256 OF THE DUMP (.gsa) THAT YtomgkpiogbmfgaaProg.lean LOADS. Nothing in Lean hashes anything: it is a label: what it is worth is what the hold of that sum in a sandbox is worth. -/
noncomputable def Try.pinned : Pinned := { name := "ytomgkpiogbmfgaa", sum := "2062e3b25c17222b7a9a61bf0f069a16ebca9905d7b6146bb438a064b1254855", checked := Try.checked }
namespace Rows
def none {H : Type} : Left H := { results := [], args := [] }

/-- 'laws.FnPinKeyPeriod': WHATEVER THE INPUT: true; the input reads as it did. -/
def fnPinKeyPeriodSpec : ChangeSpec := { name := "fnPinKeyPeriod", fn := fun _ => fun
  | [d] => { results := [.lit (.bool true)], args := [d] }
  | _ => none }
def fnPinKeyPeriodRow : OpenClaim := { program := "ytomgkpiogbmfgaa", sum := "2062e3b25c17222b7a9a61bf0f069a16ebca9905d7b6146bb438a064b1254855", func := "loop.example/rotorciphers/laws.FnPinKeyPeriod", spec := "fnPinKeyPeriod", apart := false }
def FnPinKeyPeriodSaid : Prop := fnPinKeyPeriodRow.holds Try.pinned (OpenSpec.ofChange fnPinKeyPeriodSpec)

/-- ITS FALSE NEIGHBOUR: 'it returns false'. Refute it at one input. -/
def fnPinKeyPeriodWrong : ChangeSpec := { name := "fnPinKeyPeriod", fn := fun _ => fun
  | [d] => { results := [.lit (.bool false)], args := [d] }
  | _ => none }
def FnPinKeyPeriodWrongFalsely : Prop := fnPinKeyPeriodRow.holds Try.pinned (OpenSpec.ofChange fnPinKeyPeriodWrong)

/-- 'laws.FnPinKeySteps': WHATEVER THE INPUT: true; the input reads as it did. -/
def fnPinKeyStepsSpec : ChangeSpec := { name := "fnPinKeySteps", fn := fun _ => fun
  | [d] => { results := [.lit (.bool true)], args := [d] }
  | _ => none }
def fnPinKeyStepsRow : OpenClaim := { program := "ytomgkpiogbmfgaa", sum := "2062e3b25c17222b7a9a61bf0f069a16ebca9905d7b6146bb438a064b1254855", func := "loop.example/rotorciphers/laws.FnPinKeySteps", spec := "fnPinKeySteps", apart := false }
def FnPinKeyStepsSaid : Prop := fnPinKeyStepsRow.holds Try.pinned (OpenSpec.ofChange fnPinKeyStepsSpec)

/-- ITS FALSE NEIGHBOUR: 'it returns false'. Refute it at one input. -/
def fnPinKeyStepsWrong : ChangeSpec := { name := "fnPinKeySteps", fn := fun _ => fun
  | [d] => { results := [.lit (.bool false)], args := [d] }
  | _ => none }
def FnPinKeyStepsWrongFalsely : Prop := fnPinKeyStepsRow.holds Try.pinned (OpenSpec.ofChange fnPinKeyStepsWrong)

/-- 'laws.FnExactPinEncipher': WHATEVER THE INPUT: true; the input reads as it did. -/
def fnExactPinEncipherSpec : ChangeSpec := { name := "fnExactPinEncipher", fn := fun _ => fun
  | [d1, d2, d3] => { results := [.lit (.bool true)], args := [d1, d2, d3] }
  | _ => none }
def fnExactPinEncipherRow : OpenClaim := { program := "ytomgkpiogbmfgaa", sum := "2062e3b25c17222b7a9a61bf0f069a16ebca9905d7b6146bb438a064b1254855", func := "loop.example/rotorciphers/laws.FnExactPinEncipher", spec := "fnExactPinEncipher", apart := false }
def FnExactPinEncipherSaid : Prop := fnExactPinEncipherRow.holds Try.pinned (OpenSpec.ofChange fnExactPinEncipherSpec)

/-- ITS FALSE NEIGHBOUR: 'it returns false'. Refute it at one input. -/
def fnExactPinEncipherWrong : ChangeSpec := { name := "fnExactPinEncipher", fn := fun _ => fun
  | [d1, d2, d3] => { results := [.lit (.bool false)], args := [d1, d2, d3] }
  | _ => none }
def FnExactPinEncipherWrongFalsely : Prop := fnExactPinEncipherRow.holds Try.pinned (OpenSpec.ofChange fnExactPinEncipherWrong)

/-- 'laws.FnPinDepth': WHATEVER THE INPUT: true; the input reads as it did. -/
def fnPinDepthSpec : ChangeSpec := { name := "fnPinDepth", fn := fun _ => fun
  | [d1, d2] => { results := [.lit (.bool true)], args := [d1, d2] }
  | _ => none }
def fnPinDepthRow : OpenClaim := { program := "ytomgkpiogbmfgaa", sum := "2062e3b25c17222b7a9a61bf0f069a16ebca9905d7b6146bb438a064b1254855", func := "loop.example/rotorciphers/laws.FnPinDepth", spec := "fnPinDepth", apart := false }
def FnPinDepthSaid : Prop := fnPinDepthRow.holds Try.pinned (OpenSpec.ofChange fnPinDepthSpec)

/-- ITS FALSE NEIGHBOUR: 'it returns false'. Refute it at one input. -/
def fnPinDepthWrong : ChangeSpec := { name := "fnPinDepth", fn := fun _ => fun
  | [d1, d2] => { results := [.lit (.bool false)], args := [d1, d2] }
  | _ => none }
def FnPinDepthWrongFalsely : Prop := fnPinDepthRow.holds Try.pinned (OpenSpec.ofChange fnPinDepthWrong)

/-- 'laws.FnPinSum': WHATEVER THE INPUT: true; the input reads as it did. -/
def fnPinSumSpec : ChangeSpec := { name := "fnPinSum", fn := fun _ => fun
  | [d] => { results := [.lit (.bool true)], args := [d] }
  | _ => none }
def fnPinSumRow : OpenClaim := { program := "ytomgkpiogbmfgaa", sum := "2062e3b25c17222b7a9a61bf0f069a16ebca9905d7b6146bb438a064b1254855", func := "loop.example/rotorciphers/laws.FnPinSum", spec := "fnPinSum", apart := false }
def FnPinSumSaid : Prop := fnPinSumRow.holds Try.pinned (OpenSpec.ofChange fnPinSumSpec)

/-- ITS FALSE NEIGHBOUR: 'it returns false'. Refute it at one input. -/
def fnPinSumWrong : ChangeSpec := { name := "fnPinSum", fn := fun _ => fun
  | [d] => { results := [.lit (.bool false)], args := [d] }
  | _ => none }
def FnPinSumWrongFalsely : Prop := fnPinSumRow.holds Try.pinned (OpenSpec.ofChange fnPinSumWrong)

/-- 'laws.FnPinParts': WHATEVER THE INPUT: true; the input reads as it did. -/
def fnPinPartsSpec : ChangeSpec := { name := "fnPinParts", fn := fun _ => fun
  | [d1, d2] => { results := [.lit (.bool true)], args := [d1, d2] }
  | _ => none }
def fnPinPartsRow : OpenClaim := { program := "ytomgkpiogbmfgaa", sum := "2062e3b25c17222b7a9a61bf0f069a16ebca9905d7b6146bb438a064b1254855", func := "loop.example/rotorciphers/laws.FnPinParts", spec := "fnPinParts", apart := false }
def FnPinPartsSaid : Prop := fnPinPartsRow.holds Try.pinned (OpenSpec.ofChange fnPinPartsSpec)

/-- ITS FALSE NEIGHBOUR: 'it returns false'. Refute it at one input. -/
def fnPinPartsWrong : ChangeSpec := { name := "fnPinParts", fn := fun _ => fun
  | [d1, d2] => { results := [.lit (.bool false)], args := [d1, d2] }
  | _ => none }
def FnPinPartsWrongFalsely : Prop := fnPinPartsRow.holds Try.pinned (OpenSpec.ofChange fnPinPartsWrong)

/-- 'laws.FnPinTwice': WHATEVER THE INPUT: true; the input reads as it did. -/
def fnPinTwiceSpec : ChangeSpec := { name := "fnPinTwice", fn := fun _ => fun
  | [d] => { results := [.lit (.bool true)], args := [d] }
  | _ => none }
def fnPinTwiceRow : OpenClaim := { program := "ytomgkpiogbmfgaa", sum := "2062e3b25c17222b7a9a61bf0f069a16ebca9905d7b6146bb438a064b1254855", func := "loop.example/rotorciphers/laws.FnPinTwice", spec := "fnPinTwice", apart := false }
def FnPinTwiceSaid : Prop := fnPinTwiceRow.holds Try.pinned (OpenSpec.ofChange fnPinTwiceSpec)

/-- ITS FALSE NEIGHBOUR: 'it returns false'. Refute it at one input. -/
def fnPinTwiceWrong : ChangeSpec := { name := "fnPinTwice", fn := fun _ => fun
  | [d] => { results := [.lit (.bool false)], args := [d] }
  | _ => none }
def FnPinTwiceWrongFalsely : Prop := fnPinTwiceRow.holds Try.pinned (OpenSpec.ofChange fnPinTwiceWrong)

/- THE SECOND FORM. 'bulk': how many values and letters a reading holds, each counted each time it is reached (what is shared counts as often as it is met; a slice's spare places count too). A statement '..UptoSaid' is the law's where the arguments, and the package variables that the reading takes, are together of bulk at most 1048576: NARROWER than '..Said'. Prove '..Said' where nothing that the law and all that it calls make is longer than what came in: it says more and counts as full. Else prove '..UptoSaid'. A law counts once. -/
mutual
def uptoBulk {H : Type} : DataW H → Nat
  | .lit (.string bytes) => bytes.length + 1
  | .lit _ => 1
  | .nil => 1
  | .ptr d => uptoBulk d + 1
  | .slice elems spare => uptoBulkAll elems + uptoBulkAll spare + 1
  | .agg parts => uptoBulkAll parts + 1
  | .iface _ d => uptoBulk d + 1
  | .map entries => uptoBulkEntries entries + 1
  | .held _ => 1
def uptoBulkAll {H : Type} : List (DataW H) → Nat
  | [] => 0
  | d :: r => uptoBulk d + uptoBulkAll r
def uptoBulkEntries {H : Type} : List (Lit × DataW H) → Nat
  | [] => 0
  | x :: r => uptoBulkEntry x + uptoBulkEntries r
def uptoBulkEntry {H : Type} : Lit × DataW H → Nat
  | (.string bytes, d) => bytes.length + uptoBulk d + 1
  | (_, d) => uptoBulk d + 1
 end
def uptoSmall : (H : Type) → List (DataW H) → Bool := fun _ ds => decide (uptoBulkAll ds ≤ 1048576)
def OpenSpec.upto (s : _root_.Go.ChangeSpec) : _root_.Go.OpenSpec := { _root_.Go.OpenSpec.ofChange s with cond := some uptoSmall }

/-- 'laws.FnPinKeyPeriod', WHERE WHAT IT READS IS OF BULK AT MOST 1048576: true; the input reads as it did. -/
def fnPinKeyPeriodUptoRow : OpenClaim := { program := "ytomgkpiogbmfgaa", sum := "2062e3b25c17222b7a9a61bf0f069a16ebca9905d7b6146bb438a064b1254855", func := "loop.example/rotorciphers/laws.FnPinKeyPeriod", spec := "fnPinKeyPeriod", apart := false, narrowed := true }
def FnPinKeyPeriodUptoSaid : Prop := fnPinKeyPeriodUptoRow.holds Try.pinned (OpenSpec.upto fnPinKeyPeriodSpec)

/-- 'laws.FnPinKeySteps', WHERE WHAT IT READS IS OF BULK AT MOST 1048576: true; the input reads as it did. -/
def fnPinKeyStepsUptoRow : OpenClaim := { program := "ytomgkpiogbmfgaa", sum := "2062e3b25c17222b7a9a61bf0f069a16ebca9905d7b6146bb438a064b1254855", func := "loop.example/rotorciphers/laws.FnPinKeySteps", spec := "fnPinKeySteps", apart := false, narrowed := true }
def FnPinKeyStepsUptoSaid : Prop := fnPinKeyStepsUptoRow.holds Try.pinned (OpenSpec.upto fnPinKeyStepsSpec)

/-- 'laws.FnExactPinEncipher', WHERE WHAT IT READS IS OF BULK AT MOST 1048576: true; the input reads as it did. -/
def fnExactPinEncipherUptoRow : OpenClaim := { program := "ytomgkpiogbmfgaa", sum := "2062e3b25c17222b7a9a61bf0f069a16ebca9905d7b6146bb438a064b1254855", func := "loop.example/rotorciphers/laws.FnExactPinEncipher", spec := "fnExactPinEncipher", apart := false, narrowed := true }
def FnExactPinEncipherUptoSaid : Prop := fnExactPinEncipherUptoRow.holds Try.pinned (OpenSpec.upto fnExactPinEncipherSpec)

/-- 'laws.FnPinDepth', WHERE WHAT IT READS IS OF BULK AT MOST 1048576: true; the input reads as it did. -/
def fnPinDepthUptoRow : OpenClaim := { program := "ytomgkpiogbmfgaa", sum := "2062e3b25c17222b7a9a61bf0f069a16ebca9905d7b6146bb438a064b1254855", func := "loop.example/rotorciphers/laws.FnPinDepth", spec := "fnPinDepth", apart := false, narrowed := true }
def FnPinDepthUptoSaid : Prop := fnPinDepthUptoRow.holds Try.pinned (OpenSpec.upto fnPinDepthSpec)

/-- 'laws.FnPinSum', WHERE WHAT IT READS IS OF BULK AT MOST 1048576: true; the input reads as it did. -/
def fnPinSumUptoRow : OpenClaim := { program := "ytomgkpiogbmfgaa", sum := "2062e3b25c17222b7a9a61bf0f069a16ebca9905d7b6146bb438a064b1254855", func := "loop.example/rotorciphers/laws.FnPinSum", spec := "fnPinSum", apart := false, narrowed := true }
def FnPinSumUptoSaid : Prop := fnPinSumUptoRow.holds Try.pinned (OpenSpec.upto fnPinSumSpec)

/-- 'laws.FnPinParts', WHERE WHAT IT READS IS OF BULK AT MOST 1048576: true; the input reads as it did. -/
def fnPinPartsUptoRow : OpenClaim := { program := "ytomgkpiogbmfgaa", sum := "2062e3b25c17222b7a9a61bf0f069a16ebca9905d7b6146bb438a064b1254855", func := "loop.example/rotorciphers/laws.FnPinParts", spec := "fnPinParts", apart := false, narrowed := true }
def FnPinPartsUptoSaid : Prop := fnPinPartsUptoRow.holds Try.pinned (OpenSpec.upto fnPinPartsSpec)

/-- 'laws.FnPinTwice', WHERE WHAT IT READS IS OF BULK AT MOST 1048576: true; the input reads as it did. -/
def fnPinTwiceUptoRow : OpenClaim := { program := "ytomgkpiogbmfgaa", sum := "2062e3b25c17222b7a9a61bf0f069a16ebca9905d7b6146bb438a064b1254855", func := "loop.example/rotorciphers/laws.FnPinTwice", spec := "fnPinTwice", apart := false, narrowed := true }
def FnPinTwiceUptoSaid : Prop := fnPinTwiceUptoRow.holds Try.pinned (OpenSpec.upto fnPinTwiceSpec)

end Rows
end Go.Proofs.Ytomgkpiogbmfgaa
