/-
  No cell of these rows narrows 'for every input' (looked for: loops, veiled, ifaces, maps, wideKeys, modest, calm, conditions, laid).
  DERIVED. THE GIVEN ROWS OF THIS SEAT. 2 by the template 'for every input the law returns true; each argument reads behind the call as it read before'; 0 by the template 'total and deterministic' (their statements: YthelcpfcamidiaaTotals.lean).
  GIVEN WITH THE SEED: the statements are not yours to turn. If you find one false, say at which input.
  Laid BY PROGRAM, IN A SANDBOX (cutbox-rows.mjs): the forced cells as the released guide's own fill.sh prints them over the translation a4dada695c609e53… (all of the seat's roots in one cut). By AI agents, Wed Nov 11 2026. No macro, syntax, notation, axiom, sorry.
-/
import Derived.Test.YthelcpfcamidiaaChecked
import GoSem.Claim
import GoSem.ClaimJoined
import GoSem.ClaimMapViews
import Derived.JoinedTies
import Derived.KernelRfl
namespace Go.Proofs.Ythelcpfcamidiaa
/- THE CELL 'sum', in the pinned program and in every row, IS THE sha256 OF THE DUMP (.gsa) THAT YthelcpfcamidiaaProg.lean LOADS. Nothing in Lean hashes anything: it is a label: what it is worth is what the hold of that sum in a sandbox is worth. -/
noncomputable def Try.pinned : Pinned := { name := "ythelcpfcamidiaa", sum := "a4dada695c609e5342709ac91ea7a10fb3529e551c290aec60f3ad672590a205", checked := Try.checked }
namespace Rows
def none {H : Type} : Left H := { results := [], args := [] }

/-- 'laws.FnHasRepeatFixed': WHATEVER THE INPUT: true; the input reads as it did. -/
def fnHasRepeatFixedSpec : ChangeSpec := { name := "fnHasRepeatFixed", fn := fun _ => fun
  | [d] => { results := [.lit (.bool true)], args := [d] }
  | _ => none }
def fnHasRepeatFixedRow : OpenClaim := { program := "ythelcpfcamidiaa", sum := "a4dada695c609e5342709ac91ea7a10fb3529e551c290aec60f3ad672590a205", func := "loop.example/rotorciphers/laws.FnHasRepeatFixed", spec := "fnHasRepeatFixed", inPlace := ["internal/bytealg.IndexByteString"], unfollowed := true, recurses := true, apart := false }
def FnHasRepeatFixedSaid : Prop := fnHasRepeatFixedRow.holds Try.pinned (OpenSpec.ofChange fnHasRepeatFixedSpec)

/-- ITS FALSE NEIGHBOUR: 'it returns false'. Refute it at one input. -/
def fnHasRepeatFixedWrong : ChangeSpec := { name := "fnHasRepeatFixed", fn := fun _ => fun
  | [d] => { results := [.lit (.bool false)], args := [d] }
  | _ => none }
def FnHasRepeatFixedWrongFalsely : Prop := fnHasRepeatFixedRow.holds Try.pinned (OpenSpec.ofChange fnHasRepeatFixedWrong)

/-- 'laws.FnDoubleProduct': WHATEVER THE INPUT: true; the input reads as it did. -/
def fnDoubleProductSpec : ChangeSpec := { name := "fnDoubleProduct", fn := fun _ => fun
  | [d] => { results := [.lit (.bool true)], args := [d] }
  | _ => none }
def fnDoubleProductRow : OpenClaim := { program := "ythelcpfcamidiaa", sum := "a4dada695c609e5342709ac91ea7a10fb3529e551c290aec60f3ad672590a205", func := "loop.example/rotorciphers/laws.FnDoubleProduct", spec := "fnDoubleProduct", inPlace := ["internal/bytealg.IndexByteString"], unfollowed := true, recurses := true, apart := false }
def FnDoubleProductSaid : Prop := fnDoubleProductRow.holds Try.pinned (OpenSpec.ofChange fnDoubleProductSpec)

/-- ITS FALSE NEIGHBOUR: 'it returns false'. Refute it at one input. -/
def fnDoubleProductWrong : ChangeSpec := { name := "fnDoubleProduct", fn := fun _ => fun
  | [d] => { results := [.lit (.bool false)], args := [d] }
  | _ => none }
def FnDoubleProductWrongFalsely : Prop := fnDoubleProductRow.holds Try.pinned (OpenSpec.ofChange fnDoubleProductWrong)

/- THE SECOND FORM. 'bulk': how many values and letters a reading holds, each counted each time it is reached (what is shared counts as often as it is met; a slice's spare places count too). A statement '..UptoSaid' is the law's where the arguments, and the package variables that the reading takes, are together of bulk at most 1048576: NARROWER than '..Said'. Prove '..Said' where nothing that the law and all that it calls make is longer than what came in: it says more and counts as full. Else prove '..UptoSaid'. A law counts once. -/
mutual
def uptoBulk {H : Type} : DataW H → Nat
  | .lit (.string bytes) => bytes.length + 1
  | .lit _ => 1
  | .nil => 1
  | .ptr d => uptoBulk d + 1
  | .slice elems spare => uptoBulkAll elems + uptoBulkAll spare + 1
  | .agg parts => uptoBulkAll parts + 1
  | .iface _ d => uptoBulk d + 1
  | .map entries => uptoBulkEntries entries + 1
  | .held _ => 1
def uptoBulkAll {H : Type} : List (DataW H) → Nat
  | [] => 0
  | d :: r => uptoBulk d + uptoBulkAll r
def uptoBulkEntries {H : Type} : List (Lit × DataW H) → Nat
  | [] => 0
  | x :: r => uptoBulkEntry x + uptoBulkEntries r
def uptoBulkEntry {H : Type} : Lit × DataW H → Nat
  | (.string bytes, d) => bytes.length + uptoBulk d + 1
  | (_, d) => uptoBulk d + 1
 end
def uptoSmall : (H : Type) → List (DataW H) → Bool := fun _ ds => decide (uptoBulkAll ds ≤ 1048576)
def OpenSpec.upto (s : _root_.Go.ChangeSpec) : _root_.Go.OpenSpec := { _root_.Go.OpenSpec.ofChange s with cond := some uptoSmall }

/-- 'laws.FnHasRepeatFixed', WHERE WHAT IT READS IS OF BULK AT MOST 1048576: true; the input reads as it did. -/
def fnHasRepeatFixedUptoRow : OpenClaim := { program := "ythelcpfcamidiaa", sum := "a4dada695c609e5342709ac91ea7a10fb3529e551c290aec60f3ad672590a205", func := "loop.example/rotorciphers/laws.FnHasRepeatFixed", spec := "fnHasRepeatFixed", inPlace := ["internal/bytealg.IndexByteString"], unfollowed := true, recurses := true, apart := false, narrowed := true }
def FnHasRepeatFixedUptoSaid : Prop := fnHasRepeatFixedUptoRow.holds Try.pinned (OpenSpec.upto fnHasRepeatFixedSpec)

/-- 'laws.FnDoubleProduct', WHERE WHAT IT READS IS OF BULK AT MOST 1048576: true; the input reads as it did. -/
def fnDoubleProductUptoRow : OpenClaim := { program := "ythelcpfcamidiaa", sum := "a4dada695c609e5342709ac91ea7a10fb3529e551c290aec60f3ad672590a205", func := "loop.example/rotorciphers/laws.FnDoubleProduct", spec := "fnDoubleProduct", inPlace := ["internal/bytealg.IndexByteString"], unfollowed := true, recurses := true, apart := false, narrowed := true }
def FnDoubleProductUptoSaid : Prop := fnDoubleProductUptoRow.holds Try.pinned (OpenSpec.upto fnDoubleProductSpec)

end Rows
end Go.Proofs.Ythelcpfcamidiaa
