/-
  No cell of these rows narrows 'for every input' (looked for: loops, veiled, ifaces, maps, wideKeys, modest, calm, conditions, laid).
  DERIVED. THE GIVEN ROWS OF THIS SEAT. 12 by the template 'for every input the law returns true; each argument reads behind the call as it read before'; 0 by the template 'total and deterministic' (their statements: YtbapigekpehkfaaTotals.lean).
  GIVEN WITH THE SEED: the statements are not yours to turn. If you find one false, say at which input.
  Laid BY PROGRAM, IN A SANDBOX (cutbox-rows.mjs): the forced cells as the released guide's own fill.sh prints them over the translation b7ebd276a110fda2… (all of the seat's roots in one cut). By AI agents, Wed Nov 11 2026. No macro, syntax, notation, axiom, sorry.
-/
import Derived.Test.YtbapigekpehkfaaChecked
import GoSem.Claim
import GoSem.ClaimJoined
import GoSem.ClaimMapViews
import Derived.JoinedTies
import Derived.KernelRfl
namespace Go.Proofs.Ytbapigekpehkfaa
/- THE CELL 'sum', in the pinned program and in every row, IS THE sha256 OF THE DUMP (.gsa) THAT YtbapigekpehkfaaProg.lean LOADS. Nothing in Lean hashes anything: it is a label: what it is worth is what the hold of that sum in a sandbox is worth. -/
noncomputable def Try.pinned : Pinned := { name := "ytbapigekpehkfaa", sum := "b7ebd276a110fda2b2d439e3ec5163d2fe1c673052903b02cacdb5f39f189665", checked := Try.checked }
namespace Rows
def none {H : Type} : Left H := { results := [], args := [] }

/-- 'laws.FnExactStepWindows': WHATEVER THE INPUT: true; the input reads as it did. -/
def fnExactStepWindowsSpec : ChangeSpec := { name := "fnExactStepWindows", fn := fun _ => fun
  | [d1, d2] => { results := [.lit (.bool true)], args := [d1, d2] }
  | _ => none }
def fnExactStepWindowsRow : OpenClaim := { program := "ytbapigekpehkfaa", sum := "b7ebd276a110fda2b2d439e3ec5163d2fe1c673052903b02cacdb5f39f189665", func := "loop.example/rotorciphers/laws.FnExactStepWindows", spec := "fnExactStepWindows", inPlace := ["internal/bytealg.IndexByteString"], apart := false }
def FnExactStepWindowsSaid : Prop := fnExactStepWindowsRow.holds Try.pinned (OpenSpec.ofChange fnExactStepWindowsSpec)

/-- ITS FALSE NEIGHBOUR: 'it returns false'. Refute it at one input. -/
def fnExactStepWindowsWrong : ChangeSpec := { name := "fnExactStepWindows", fn := fun _ => fun
  | [d1, d2] => { results := [.lit (.bool false)], args := [d1, d2] }
  | _ => none }
def FnExactStepWindowsWrongFalsely : Prop := fnExactStepWindowsRow.holds Try.pinned (OpenSpec.ofChange fnExactStepWindowsWrong)

/-- 'laws.FnExactStepMany': WHATEVER THE INPUT: true; the input reads as it did. -/
def fnExactStepManySpec : ChangeSpec := { name := "fnExactStepMany", fn := fun _ => fun
  | [d1, d2, d3] => { results := [.lit (.bool true)], args := [d1, d2, d3] }
  | _ => none }
def fnExactStepManyRow : OpenClaim := { program := "ytbapigekpehkfaa", sum := "b7ebd276a110fda2b2d439e3ec5163d2fe1c673052903b02cacdb5f39f189665", func := "loop.example/rotorciphers/laws.FnExactStepMany", spec := "fnExactStepMany", inPlace := ["internal/bytealg.IndexByteString"], apart := false }
def FnExactStepManySaid : Prop := fnExactStepManyRow.holds Try.pinned (OpenSpec.ofChange fnExactStepManySpec)

/-- ITS FALSE NEIGHBOUR: 'it returns false'. Refute it at one input. -/
def fnExactStepManyWrong : ChangeSpec := { name := "fnExactStepMany", fn := fun _ => fun
  | [d1, d2, d3] => { results := [.lit (.bool false)], args := [d1, d2, d3] }
  | _ => none }
def FnExactStepManyWrongFalsely : Prop := fnExactStepManyRow.holds Try.pinned (OpenSpec.ofChange fnExactStepManyWrong)

/-- 'laws.FnExactLeftMoves': WHATEVER THE INPUT: true; the input reads as it did. -/
def fnExactLeftMovesSpec : ChangeSpec := { name := "fnExactLeftMoves", fn := fun _ => fun
  | [d1, d2, d3] => { results := [.lit (.bool true)], args := [d1, d2, d3] }
  | _ => none }
def fnExactLeftMovesRow : OpenClaim := { program := "ytbapigekpehkfaa", sum := "b7ebd276a110fda2b2d439e3ec5163d2fe1c673052903b02cacdb5f39f189665", func := "loop.example/rotorciphers/laws.FnExactLeftMoves", spec := "fnExactLeftMoves", inPlace := ["internal/bytealg.IndexByteString"], apart := false }
def FnExactLeftMovesSaid : Prop := fnExactLeftMovesRow.holds Try.pinned (OpenSpec.ofChange fnExactLeftMovesSpec)

/-- ITS FALSE NEIGHBOUR: 'it returns false'. Refute it at one input. -/
def fnExactLeftMovesWrong : ChangeSpec := { name := "fnExactLeftMoves", fn := fun _ => fun
  | [d1, d2, d3] => { results := [.lit (.bool false)], args := [d1, d2, d3] }
  | _ => none }
def FnExactLeftMovesWrongFalsely : Prop := fnExactLeftMovesRow.holds Try.pinned (OpenSpec.ofChange fnExactLeftMovesWrong)

/-- 'laws.FnExactStepsTo': WHATEVER THE INPUT: true; the input reads as it did. -/
def fnExactStepsToSpec : ChangeSpec := { name := "fnExactStepsTo", fn := fun _ => fun
  | [d1, d2, d3] => { results := [.lit (.bool true)], args := [d1, d2, d3] }
  | _ => none }
def fnExactStepsToRow : OpenClaim := { program := "ytbapigekpehkfaa", sum := "b7ebd276a110fda2b2d439e3ec5163d2fe1c673052903b02cacdb5f39f189665", func := "loop.example/rotorciphers/laws.FnExactStepsTo", spec := "fnExactStepsTo", inPlace := ["internal/bytealg.IndexByteString"], apart := false }
def FnExactStepsToSaid : Prop := fnExactStepsToRow.holds Try.pinned (OpenSpec.ofChange fnExactStepsToSpec)

/-- ITS FALSE NEIGHBOUR: 'it returns false'. Refute it at one input. -/
def fnExactStepsToWrong : ChangeSpec := { name := "fnExactStepsTo", fn := fun _ => fun
  | [d1, d2, d3] => { results := [.lit (.bool false)], args := [d1, d2, d3] }
  | _ => none }
def FnExactStepsToWrongFalsely : Prop := fnExactStepsToRow.holds Try.pinned (OpenSpec.ofChange fnExactStepsToWrong)

/-- 'laws.FnExactPeriodOf': WHATEVER THE INPUT: true; the input reads as it did. -/
def fnExactPeriodOfSpec : ChangeSpec := { name := "fnExactPeriodOf", fn := fun _ => fun
  | [d1, d2] => { results := [.lit (.bool true)], args := [d1, d2] }
  | _ => none }
def fnExactPeriodOfRow : OpenClaim := { program := "ytbapigekpehkfaa", sum := "b7ebd276a110fda2b2d439e3ec5163d2fe1c673052903b02cacdb5f39f189665", func := "loop.example/rotorciphers/laws.FnExactPeriodOf", spec := "fnExactPeriodOf", inPlace := ["internal/bytealg.IndexByteString"], apart := false }
def FnExactPeriodOfSaid : Prop := fnExactPeriodOfRow.holds Try.pinned (OpenSpec.ofChange fnExactPeriodOfSpec)

/-- ITS FALSE NEIGHBOUR: 'it returns false'. Refute it at one input. -/
def fnExactPeriodOfWrong : ChangeSpec := { name := "fnExactPeriodOf", fn := fun _ => fun
  | [d1, d2] => { results := [.lit (.bool false)], args := [d1, d2] }
  | _ => none }
def FnExactPeriodOfWrongFalsely : Prop := fnExactPeriodOfRow.holds Try.pinned (OpenSpec.ofChange fnExactPeriodOfWrong)

/-- 'laws.FnExactLeadIn': WHATEVER THE INPUT: true; the input reads as it did. -/
def fnExactLeadInSpec : ChangeSpec := { name := "fnExactLeadIn", fn := fun _ => fun
  | [d1, d2] => { results := [.lit (.bool true)], args := [d1, d2] }
  | _ => none }
def fnExactLeadInRow : OpenClaim := { program := "ytbapigekpehkfaa", sum := "b7ebd276a110fda2b2d439e3ec5163d2fe1c673052903b02cacdb5f39f189665", func := "loop.example/rotorciphers/laws.FnExactLeadIn", spec := "fnExactLeadIn", inPlace := ["internal/bytealg.IndexByteString"], apart := false }
def FnExactLeadInSaid : Prop := fnExactLeadInRow.holds Try.pinned (OpenSpec.ofChange fnExactLeadInSpec)

/-- ITS FALSE NEIGHBOUR: 'it returns false'. Refute it at one input. -/
def fnExactLeadInWrong : ChangeSpec := { name := "fnExactLeadIn", fn := fun _ => fun
  | [d1, d2] => { results := [.lit (.bool false)], args := [d1, d2] }
  | _ => none }
def FnExactLeadInWrongFalsely : Prop := fnExactLeadInRow.holds Try.pinned (OpenSpec.ofChange fnExactLeadInWrong)

/-- 'laws.FnStepSum': WHATEVER THE INPUT: true; the input reads as it did. -/
def fnStepSumSpec : ChangeSpec := { name := "fnStepSum", fn := fun _ => fun
  | [d1, d2] => { results := [.lit (.bool true)], args := [d1, d2] }
  | _ => none }
def fnStepSumRow : OpenClaim := { program := "ytbapigekpehkfaa", sum := "b7ebd276a110fda2b2d439e3ec5163d2fe1c673052903b02cacdb5f39f189665", func := "loop.example/rotorciphers/laws.FnStepSum", spec := "fnStepSum", inPlace := ["internal/bytealg.IndexByteString"], apart := false }
def FnStepSumSaid : Prop := fnStepSumRow.holds Try.pinned (OpenSpec.ofChange fnStepSumSpec)

/-- ITS FALSE NEIGHBOUR: 'it returns false'. Refute it at one input. -/
def fnStepSumWrong : ChangeSpec := { name := "fnStepSum", fn := fun _ => fun
  | [d1, d2] => { results := [.lit (.bool false)], args := [d1, d2] }
  | _ => none }
def FnStepSumWrongFalsely : Prop := fnStepSumRow.holds Try.pinned (OpenSpec.ofChange fnStepSumWrong)

/-- 'laws.FnStepOne': WHATEVER THE INPUT: true; the input reads as it did. -/
def fnStepOneSpec : ChangeSpec := { name := "fnStepOne", fn := fun _ => fun
  | [d] => { results := [.lit (.bool true)], args := [d] }
  | _ => none }
def fnStepOneRow : OpenClaim := { program := "ytbapigekpehkfaa", sum := "b7ebd276a110fda2b2d439e3ec5163d2fe1c673052903b02cacdb5f39f189665", func := "loop.example/rotorciphers/laws.FnStepOne", spec := "fnStepOne", inPlace := ["internal/bytealg.IndexByteString"], apart := false }
def FnStepOneSaid : Prop := fnStepOneRow.holds Try.pinned (OpenSpec.ofChange fnStepOneSpec)

/-- ITS FALSE NEIGHBOUR: 'it returns false'. Refute it at one input. -/
def fnStepOneWrong : ChangeSpec := { name := "fnStepOne", fn := fun _ => fun
  | [d] => { results := [.lit (.bool false)], args := [d] }
  | _ => none }
def FnStepOneWrongFalsely : Prop := fnStepOneRow.holds Try.pinned (OpenSpec.ofChange fnStepOneWrong)

/-- 'laws.FnStepLast': WHATEVER THE INPUT: true; the input reads as it did. -/
def fnStepLastSpec : ChangeSpec := { name := "fnStepLast", fn := fun _ => fun
  | [d] => { results := [.lit (.bool true)], args := [d] }
  | _ => none }
def fnStepLastRow : OpenClaim := { program := "ytbapigekpehkfaa", sum := "b7ebd276a110fda2b2d439e3ec5163d2fe1c673052903b02cacdb5f39f189665", func := "loop.example/rotorciphers/laws.FnStepLast", spec := "fnStepLast", inPlace := ["internal/bytealg.IndexByteString"], apart := false }
def FnStepLastSaid : Prop := fnStepLastRow.holds Try.pinned (OpenSpec.ofChange fnStepLastSpec)

/-- ITS FALSE NEIGHBOUR: 'it returns false'. Refute it at one input. -/
def fnStepLastWrong : ChangeSpec := { name := "fnStepLast", fn := fun _ => fun
  | [d] => { results := [.lit (.bool false)], args := [d] }
  | _ => none }
def FnStepLastWrongFalsely : Prop := fnStepLastRow.holds Try.pinned (OpenSpec.ofChange fnStepLastWrong)

/-- 'laws.FnStepMoves': WHATEVER THE INPUT: true; the input reads as it did. -/
def fnStepMovesSpec : ChangeSpec := { name := "fnStepMoves", fn := fun _ => fun
  | [d] => { results := [.lit (.bool true)], args := [d] }
  | _ => none }
def fnStepMovesRow : OpenClaim := { program := "ytbapigekpehkfaa", sum := "b7ebd276a110fda2b2d439e3ec5163d2fe1c673052903b02cacdb5f39f189665", func := "loop.example/rotorciphers/laws.FnStepMoves", spec := "fnStepMoves", inPlace := ["internal/bytealg.IndexByteString"], apart := false }
def FnStepMovesSaid : Prop := fnStepMovesRow.holds Try.pinned (OpenSpec.ofChange fnStepMovesSpec)

/-- ITS FALSE NEIGHBOUR: 'it returns false'. Refute it at one input. -/
def fnStepMovesWrong : ChangeSpec := { name := "fnStepMoves", fn := fun _ => fun
  | [d] => { results := [.lit (.bool false)], args := [d] }
  | _ => none }
def FnStepMovesWrongFalsely : Prop := fnStepMovesRow.holds Try.pinned (OpenSpec.ofChange fnStepMovesWrong)

/-- 'laws.FnLeftMoves': WHATEVER THE INPUT: true; the input reads as it did. -/
def fnLeftMovesSpec : ChangeSpec := { name := "fnLeftMoves", fn := fun _ => fun
  | [d] => { results := [.lit (.bool true)], args := [d] }
  | _ => none }
def fnLeftMovesRow : OpenClaim := { program := "ytbapigekpehkfaa", sum := "b7ebd276a110fda2b2d439e3ec5163d2fe1c673052903b02cacdb5f39f189665", func := "loop.example/rotorciphers/laws.FnLeftMoves", spec := "fnLeftMoves", inPlace := ["internal/bytealg.IndexByteString"], apart := false }
def FnLeftMovesSaid : Prop := fnLeftMovesRow.holds Try.pinned (OpenSpec.ofChange fnLeftMovesSpec)

/-- ITS FALSE NEIGHBOUR: 'it returns false'. Refute it at one input. -/
def fnLeftMovesWrong : ChangeSpec := { name := "fnLeftMoves", fn := fun _ => fun
  | [d] => { results := [.lit (.bool false)], args := [d] }
  | _ => none }
def FnLeftMovesWrongFalsely : Prop := fnLeftMovesRow.holds Try.pinned (OpenSpec.ofChange fnLeftMovesWrong)

/-- 'laws.FnStepTwice': WHATEVER THE INPUT: true; the input reads as it did. -/
def fnStepTwiceSpec : ChangeSpec := { name := "fnStepTwice", fn := fun _ => fun
  | [d] => { results := [.lit (.bool true)], args := [d] }
  | _ => none }
def fnStepTwiceRow : OpenClaim := { program := "ytbapigekpehkfaa", sum := "b7ebd276a110fda2b2d439e3ec5163d2fe1c673052903b02cacdb5f39f189665", func := "loop.example/rotorciphers/laws.FnStepTwice", spec := "fnStepTwice", inPlace := ["internal/bytealg.IndexByteString", "internal/bytealg.IndexString"], named := ["internal/bytealg.MaxLen"], apart := false }
def FnStepTwiceSaid : Prop := fnStepTwiceRow.holds Try.pinned (OpenSpec.ofChange fnStepTwiceSpec)

/-- ITS FALSE NEIGHBOUR: 'it returns false'. Refute it at one input. -/
def fnStepTwiceWrong : ChangeSpec := { name := "fnStepTwice", fn := fun _ => fun
  | [d] => { results := [.lit (.bool false)], args := [d] }
  | _ => none }
def FnStepTwiceWrongFalsely : Prop := fnStepTwiceRow.holds Try.pinned (OpenSpec.ofChange fnStepTwiceWrong)

/- THE SECOND FORM. 'bulk': how many values and letters a reading holds, each counted each time it is reached (what is shared counts as often as it is met; a slice's spare places count too). A statement '..UptoSaid' is the law's where the arguments, and the package variables that the reading takes, are together of bulk at most 1048576: NARROWER than '..Said'. Prove '..Said' where nothing that the law and all that it calls make is longer than what came in: it says more and counts as full. Else prove '..UptoSaid'. A law counts once. -/
mutual
def uptoBulk {H : Type} : DataW H → Nat
  | .lit (.string bytes) => bytes.length + 1
  | .lit _ => 1
  | .nil => 1
  | .ptr d => uptoBulk d + 1
  | .slice elems spare => uptoBulkAll elems + uptoBulkAll spare + 1
  | .agg parts => uptoBulkAll parts + 1
  | .iface _ d => uptoBulk d + 1
  | .map entries => uptoBulkEntries entries + 1
  | .held _ => 1
def uptoBulkAll {H : Type} : List (DataW H) → Nat
  | [] => 0
  | d :: r => uptoBulk d + uptoBulkAll r
def uptoBulkEntries {H : Type} : List (Lit × DataW H) → Nat
  | [] => 0
  | x :: r => uptoBulkEntry x + uptoBulkEntries r
def uptoBulkEntry {H : Type} : Lit × DataW H → Nat
  | (.string bytes, d) => bytes.length + uptoBulk d + 1
  | (_, d) => uptoBulk d + 1
 end
def uptoSmall : (H : Type) → List (DataW H) → Bool := fun _ ds => decide (uptoBulkAll ds ≤ 1048576)
def OpenSpec.upto (s : _root_.Go.ChangeSpec) : _root_.Go.OpenSpec := { _root_.Go.OpenSpec.ofChange s with cond := some uptoSmall }

/-- 'laws.FnExactStepWindows', WHERE WHAT IT READS IS OF BULK AT MOST 1048576: true; the input reads as it did. -/
def fnExactStepWindowsUptoRow : OpenClaim := { program := "ytbapigekpehkfaa", sum := "b7ebd276a110fda2b2d439e3ec5163d2fe1c673052903b02cacdb5f39f189665", func := "loop.example/rotorciphers/laws.FnExactStepWindows", spec := "fnExactStepWindows", inPlace := ["internal/bytealg.IndexByteString"], apart := false, narrowed := true }
def FnExactStepWindowsUptoSaid : Prop := fnExactStepWindowsUptoRow.holds Try.pinned (OpenSpec.upto fnExactStepWindowsSpec)

/-- 'laws.FnExactStepMany', WHERE WHAT IT READS IS OF BULK AT MOST 1048576: true; the input reads as it did. -/
def fnExactStepManyUptoRow : OpenClaim := { program := "ytbapigekpehkfaa", sum := "b7ebd276a110fda2b2d439e3ec5163d2fe1c673052903b02cacdb5f39f189665", func := "loop.example/rotorciphers/laws.FnExactStepMany", spec := "fnExactStepMany", inPlace := ["internal/bytealg.IndexByteString"], apart := false, narrowed := true }
def FnExactStepManyUptoSaid : Prop := fnExactStepManyUptoRow.holds Try.pinned (OpenSpec.upto fnExactStepManySpec)

/-- 'laws.FnExactLeftMoves', WHERE WHAT IT READS IS OF BULK AT MOST 1048576: true; the input reads as it did. -/
def fnExactLeftMovesUptoRow : OpenClaim := { program := "ytbapigekpehkfaa", sum := "b7ebd276a110fda2b2d439e3ec5163d2fe1c673052903b02cacdb5f39f189665", func := "loop.example/rotorciphers/laws.FnExactLeftMoves", spec := "fnExactLeftMoves", inPlace := ["internal/bytealg.IndexByteString"], apart := false, narrowed := true }
def FnExactLeftMovesUptoSaid : Prop := fnExactLeftMovesUptoRow.holds Try.pinned (OpenSpec.upto fnExactLeftMovesSpec)

/-- 'laws.FnExactStepsTo', WHERE WHAT IT READS IS OF BULK AT MOST 1048576: true; the input reads as it did. -/
def fnExactStepsToUptoRow : OpenClaim := { program := "ytbapigekpehkfaa", sum := "b7ebd276a110fda2b2d439e3ec5163d2fe1c673052903b02cacdb5f39f189665", func := "loop.example/rotorciphers/laws.FnExactStepsTo", spec := "fnExactStepsTo", inPlace := ["internal/bytealg.IndexByteString"], apart := false, narrowed := true }
def FnExactStepsToUptoSaid : Prop := fnExactStepsToUptoRow.holds Try.pinned (OpenSpec.upto fnExactStepsToSpec)

/-- 'laws.FnExactPeriodOf', WHERE WHAT IT READS IS OF BULK AT MOST 1048576: true; the input reads as it did. -/
def fnExactPeriodOfUptoRow : OpenClaim := { program := "ytbapigekpehkfaa", sum := "b7ebd276a110fda2b2d439e3ec5163d2fe1c673052903b02cacdb5f39f189665", func := "loop.example/rotorciphers/laws.FnExactPeriodOf", spec := "fnExactPeriodOf", inPlace := ["internal/bytealg.IndexByteString"], apart := false, narrowed := true }
def FnExactPeriodOfUptoSaid : Prop := fnExactPeriodOfUptoRow.holds Try.pinned (OpenSpec.upto fnExactPeriodOfSpec)

/-- 'laws.FnExactLeadIn', WHERE WHAT IT READS IS OF BULK AT MOST 1048576: true; the input reads as it did. -/
def fnExactLeadInUptoRow : OpenClaim := { program := "ytbapigekpehkfaa", sum := "b7ebd276a110fda2b2d439e3ec5163d2fe1c673052903b02cacdb5f39f189665", func := "loop.example/rotorciphers/laws.FnExactLeadIn", spec := "fnExactLeadIn", inPlace := ["internal/bytealg.IndexByteString"], apart := false, narrowed := true }
def FnExactLeadInUptoSaid : Prop := fnExactLeadInUptoRow.holds Try.pinned (OpenSpec.upto fnExactLeadInSpec)

/-- 'laws.FnStepSum', WHERE WHAT IT READS IS OF BULK AT MOST 1048576: true; the input reads as it did. -/
def fnStepSumUptoRow : OpenClaim := { program := "ytbapigekpehkfaa", sum := "b7ebd276a110fda2b2d439e3ec5163d2fe1c673052903b02cacdb5f39f189665", func := "loop.example/rotorciphers/laws.FnStepSum", spec := "fnStepSum", inPlace := ["internal/bytealg.IndexByteString"], apart := false, narrowed := true }
def FnStepSumUptoSaid : Prop := fnStepSumUptoRow.holds Try.pinned (OpenSpec.upto fnStepSumSpec)

/-- 'laws.FnStepOne', WHERE WHAT IT READS IS OF BULK AT MOST 1048576: true; the input reads as it did. -/
def fnStepOneUptoRow : OpenClaim := { program := "ytbapigekpehkfaa", sum := "b7ebd276a110fda2b2d439e3ec5163d2fe1c673052903b02cacdb5f39f189665", func := "loop.example/rotorciphers/laws.FnStepOne", spec := "fnStepOne", inPlace := ["internal/bytealg.IndexByteString"], apart := false, narrowed := true }
def FnStepOneUptoSaid : Prop := fnStepOneUptoRow.holds Try.pinned (OpenSpec.upto fnStepOneSpec)

/-- 'laws.FnStepLast', WHERE WHAT IT READS IS OF BULK AT MOST 1048576: true; the input reads as it did. -/
def fnStepLastUptoRow : OpenClaim := { program := "ytbapigekpehkfaa", sum := "b7ebd276a110fda2b2d439e3ec5163d2fe1c673052903b02cacdb5f39f189665", func := "loop.example/rotorciphers/laws.FnStepLast", spec := "fnStepLast", inPlace := ["internal/bytealg.IndexByteString"], apart := false, narrowed := true }
def FnStepLastUptoSaid : Prop := fnStepLastUptoRow.holds Try.pinned (OpenSpec.upto fnStepLastSpec)

/-- 'laws.FnStepMoves', WHERE WHAT IT READS IS OF BULK AT MOST 1048576: true; the input reads as it did. -/
def fnStepMovesUptoRow : OpenClaim := { program := "ytbapigekpehkfaa", sum := "b7ebd276a110fda2b2d439e3ec5163d2fe1c673052903b02cacdb5f39f189665", func := "loop.example/rotorciphers/laws.FnStepMoves", spec := "fnStepMoves", inPlace := ["internal/bytealg.IndexByteString"], apart := false, narrowed := true }
def FnStepMovesUptoSaid : Prop := fnStepMovesUptoRow.holds Try.pinned (OpenSpec.upto fnStepMovesSpec)

/-- 'laws.FnLeftMoves', WHERE WHAT IT READS IS OF BULK AT MOST 1048576: true; the input reads as it did. -/
def fnLeftMovesUptoRow : OpenClaim := { program := "ytbapigekpehkfaa", sum := "b7ebd276a110fda2b2d439e3ec5163d2fe1c673052903b02cacdb5f39f189665", func := "loop.example/rotorciphers/laws.FnLeftMoves", spec := "fnLeftMoves", inPlace := ["internal/bytealg.IndexByteString"], apart := false, narrowed := true }
def FnLeftMovesUptoSaid : Prop := fnLeftMovesUptoRow.holds Try.pinned (OpenSpec.upto fnLeftMovesSpec)

/-- 'laws.FnStepTwice', WHERE WHAT IT READS IS OF BULK AT MOST 1048576: true; the input reads as it did. -/
def fnStepTwiceUptoRow : OpenClaim := { program := "ytbapigekpehkfaa", sum := "b7ebd276a110fda2b2d439e3ec5163d2fe1c673052903b02cacdb5f39f189665", func := "loop.example/rotorciphers/laws.FnStepTwice", spec := "fnStepTwice", inPlace := ["internal/bytealg.IndexByteString", "internal/bytealg.IndexString"], named := ["internal/bytealg.MaxLen"], apart := false, narrowed := true }
def FnStepTwiceUptoSaid : Prop := fnStepTwiceUptoRow.holds Try.pinned (OpenSpec.upto fnStepTwiceSpec)

end Rows
end Go.Proofs.Ytbapigekpehkfaa
