/-
  No cell of these rows narrows 'for every input' (looked for: loops, veiled, ifaces, maps, wideKeys, modest, calm, conditions, laid).
  DERIVED. THE GIVEN ROWS OF THIS SEAT. 10 by the template 'for every input the law returns true; each argument reads behind the call as it read before'; 0 by the template 'total and deterministic' (their statements: YtnfeddnkokocfaaTotals.lean).
  GIVEN WITH THE SEED: the statements are not yours to turn. If you find one false, say at which input.
  Laid BY PROGRAM, IN A SANDBOX (cutbox-rows.mjs): the forced cells as the released guide's own fill.sh prints them over the translation 70855a3afad95473… (all of the seat's roots in one cut). By AI agents, Wed Nov 11 2026. No macro, syntax, notation, axiom, sorry.
-/
import Derived.Test.YtnfeddnkokocfaaChecked
import GoSem.Claim
import GoSem.ClaimJoined
import GoSem.ClaimMapViews
import Derived.JoinedTies
import Derived.KernelRfl
namespace Go.Proofs.Ytnfeddnkokocfaa
/- THE CELL 'sum', in the pinned program and in every row, IS THE sha256 OF THE DUMP (.gsa) THAT YtnfeddnkokocfaaProg.lean LOADS. Nothing in Lean hashes anything: it is a label: what it is worth is what the hold of that sum in a sandbox is worth. -/
noncomputable def Try.pinned : Pinned := { name := "ytnfeddnkokocfaa", sum := "70855a3afad95473437efe5d7275a426cfdd6449260a17d4116bdefd68d6b826", checked := Try.checked }
namespace Rows
def none {H : Type} : Left H := { results := [], args := [] }

/-- 'laws.FnExactHasRepeat': WHATEVER THE INPUT: true; the input reads as it did. -/
def fnExactHasRepeatSpec : ChangeSpec := { name := "fnExactHasRepeat", fn := fun _ => fun
  | [d1, d2, d3] => { results := [.lit (.bool true)], args := [d1, d2, d3] }
  | _ => none }
def fnExactHasRepeatRow : OpenClaim := { program := "ytnfeddnkokocfaa", sum := "70855a3afad95473437efe5d7275a426cfdd6449260a17d4116bdefd68d6b826", func := "loop.example/rotorciphers/laws.FnExactHasRepeat", spec := "fnExactHasRepeat", inPlace := ["internal/bytealg.IndexByteString"], unfollowed := true, recurses := true, apart := false }
def FnExactHasRepeatSaid : Prop := fnExactHasRepeatRow.holds Try.pinned (OpenSpec.ofChange fnExactHasRepeatSpec)

/-- ITS FALSE NEIGHBOUR: 'it returns false'. Refute it at one input. -/
def fnExactHasRepeatWrong : ChangeSpec := { name := "fnExactHasRepeat", fn := fun _ => fun
  | [d1, d2, d3] => { results := [.lit (.bool false)], args := [d1, d2, d3] }
  | _ => none }
def FnExactHasRepeatWrongFalsely : Prop := fnExactHasRepeatRow.holds Try.pinned (OpenSpec.ofChange fnExactHasRepeatWrong)

/-- 'laws.FnExactRepeatCount': WHATEVER THE INPUT: true; the input reads as it did. -/
def fnExactRepeatCountSpec : ChangeSpec := { name := "fnExactRepeatCount", fn := fun _ => fun
  | [d1, d2] => { results := [.lit (.bool true)], args := [d1, d2] }
  | _ => none }
def fnExactRepeatCountRow : OpenClaim := { program := "ytnfeddnkokocfaa", sum := "70855a3afad95473437efe5d7275a426cfdd6449260a17d4116bdefd68d6b826", func := "loop.example/rotorciphers/laws.FnExactRepeatCount", spec := "fnExactRepeatCount", inPlace := ["internal/bytealg.IndexByteString"], unfollowed := true, recurses := true, apart := false }
def FnExactRepeatCountSaid : Prop := fnExactRepeatCountRow.holds Try.pinned (OpenSpec.ofChange fnExactRepeatCountSpec)

/-- ITS FALSE NEIGHBOUR: 'it returns false'. Refute it at one input. -/
def fnExactRepeatCountWrong : ChangeSpec := { name := "fnExactRepeatCount", fn := fun _ => fun
  | [d1, d2] => { results := [.lit (.bool false)], args := [d1, d2] }
  | _ => none }
def FnExactRepeatCountWrongFalsely : Prop := fnExactRepeatCountRow.holds Try.pinned (OpenSpec.ofChange fnExactRepeatCountWrong)

/-- 'laws.FnExactSheetRow': WHATEVER THE INPUT: true; the input reads as it did. -/
def fnExactSheetRowSpec : ChangeSpec := { name := "fnExactSheetRow", fn := fun _ => fun
  | [d1, d2, d3] => { results := [.lit (.bool true)], args := [d1, d2, d3] }
  | _ => none }
def fnExactSheetRowRow : OpenClaim := { program := "ytnfeddnkokocfaa", sum := "70855a3afad95473437efe5d7275a426cfdd6449260a17d4116bdefd68d6b826", func := "loop.example/rotorciphers/laws.FnExactSheetRow", spec := "fnExactSheetRow", inPlace := ["internal/bytealg.IndexByteString"], unfollowed := true, recurses := true, apart := false }
def FnExactSheetRowSaid : Prop := fnExactSheetRowRow.holds Try.pinned (OpenSpec.ofChange fnExactSheetRowSpec)

/-- ITS FALSE NEIGHBOUR: 'it returns false'. Refute it at one input. -/
def fnExactSheetRowWrong : ChangeSpec := { name := "fnExactSheetRow", fn := fun _ => fun
  | [d1, d2, d3] => { results := [.lit (.bool false)], args := [d1, d2, d3] }
  | _ => none }
def FnExactSheetRowWrongFalsely : Prop := fnExactSheetRowRow.holds Try.pinned (OpenSpec.ofChange fnExactSheetRowWrong)

/-- 'laws.FnExactOpenMessage': WHATEVER THE INPUT: true; the input reads as it did. -/
def fnExactOpenMessageSpec : ChangeSpec := { name := "fnExactOpenMessage", fn := fun _ => fun
  | [d1, d2] => { results := [.lit (.bool true)], args := [d1, d2] }
  | _ => none }
def fnExactOpenMessageRow : OpenClaim := { program := "ytnfeddnkokocfaa", sum := "70855a3afad95473437efe5d7275a426cfdd6449260a17d4116bdefd68d6b826", func := "loop.example/rotorciphers/laws.FnExactOpenMessage", spec := "fnExactOpenMessage", inPlace := ["internal/bytealg.IndexByteString"], unfollowed := true, recurses := true, apart := false }
def FnExactOpenMessageSaid : Prop := fnExactOpenMessageRow.holds Try.pinned (OpenSpec.ofChange fnExactOpenMessageSpec)

/-- ITS FALSE NEIGHBOUR: 'it returns false'. Refute it at one input. -/
def fnExactOpenMessageWrong : ChangeSpec := { name := "fnExactOpenMessage", fn := fun _ => fun
  | [d1, d2] => { results := [.lit (.bool false)], args := [d1, d2] }
  | _ => none }
def FnExactOpenMessageWrongFalsely : Prop := fnExactOpenMessageRow.holds Try.pinned (OpenSpec.ofChange fnExactOpenMessageWrong)

/-- 'laws.FnExactKeyPerms': WHATEVER THE INPUT: true; the input reads as it did. -/
def fnExactKeyPermsSpec : ChangeSpec := { name := "fnExactKeyPerms", fn := fun _ => fun
  | [d1, d2, d3] => { results := [.lit (.bool true)], args := [d1, d2, d3] }
  | _ => none }
def fnExactKeyPermsRow : OpenClaim := { program := "ytnfeddnkokocfaa", sum := "70855a3afad95473437efe5d7275a426cfdd6449260a17d4116bdefd68d6b826", func := "loop.example/rotorciphers/laws.FnExactKeyPerms", spec := "fnExactKeyPerms", inPlace := ["internal/bytealg.IndexByteString"], unfollowed := true, recurses := true, apart := false }
def FnExactKeyPermsSaid : Prop := fnExactKeyPermsRow.holds Try.pinned (OpenSpec.ofChange fnExactKeyPermsSpec)

/-- ITS FALSE NEIGHBOUR: 'it returns false'. Refute it at one input. -/
def fnExactKeyPermsWrong : ChangeSpec := { name := "fnExactKeyPerms", fn := fun _ => fun
  | [d1, d2, d3] => { results := [.lit (.bool false)], args := [d1, d2, d3] }
  | _ => none }
def FnExactKeyPermsWrongFalsely : Prop := fnExactKeyPermsRow.holds Try.pinned (OpenSpec.ofChange fnExactKeyPermsWrong)

/-- 'laws.FnExactDayProducts': WHATEVER THE INPUT: true; the input reads as it did. -/
def fnExactDayProductsSpec : ChangeSpec := { name := "fnExactDayProducts", fn := fun _ => fun
  | [d1, d2] => { results := [.lit (.bool true)], args := [d1, d2] }
  | _ => none }
def fnExactDayProductsRow : OpenClaim := { program := "ytnfeddnkokocfaa", sum := "70855a3afad95473437efe5d7275a426cfdd6449260a17d4116bdefd68d6b826", func := "loop.example/rotorciphers/laws.FnExactDayProducts", spec := "fnExactDayProducts", inPlace := ["internal/bytealg.IndexByteString"], unfollowed := true, recurses := true, apart := false }
def FnExactDayProductsSaid : Prop := fnExactDayProductsRow.holds Try.pinned (OpenSpec.ofChange fnExactDayProductsSpec)

/-- ITS FALSE NEIGHBOUR: 'it returns false'. Refute it at one input. -/
def fnExactDayProductsWrong : ChangeSpec := { name := "fnExactDayProducts", fn := fun _ => fun
  | [d1, d2] => { results := [.lit (.bool false)], args := [d1, d2] }
  | _ => none }
def FnExactDayProductsWrongFalsely : Prop := fnExactDayProductsRow.holds Try.pinned (OpenSpec.ofChange fnExactDayProductsWrong)

/-- 'laws.FnExactCheckMenu': WHATEVER THE INPUT: true; the input reads as it did. -/
def fnExactCheckMenuSpec : ChangeSpec := { name := "fnExactCheckMenu", fn := fun _ => fun
  | [d1, d2, d3] => { results := [.lit (.bool true)], args := [d1, d2, d3] }
  | _ => none }
def fnExactCheckMenuRow : OpenClaim := { program := "ytnfeddnkokocfaa", sum := "70855a3afad95473437efe5d7275a426cfdd6449260a17d4116bdefd68d6b826", func := "loop.example/rotorciphers/laws.FnExactCheckMenu", spec := "fnExactCheckMenu", inPlace := ["internal/bytealg.IndexByteString"], unfollowed := true, recurses := true, apart := false }
def FnExactCheckMenuSaid : Prop := fnExactCheckMenuRow.holds Try.pinned (OpenSpec.ofChange fnExactCheckMenuSpec)

/-- ITS FALSE NEIGHBOUR: 'it returns false'. Refute it at one input. -/
def fnExactCheckMenuWrong : ChangeSpec := { name := "fnExactCheckMenu", fn := fun _ => fun
  | [d1, d2, d3] => { results := [.lit (.bool false)], args := [d1, d2, d3] }
  | _ => none }
def FnExactCheckMenuWrongFalsely : Prop := fnExactCheckMenuRow.holds Try.pinned (OpenSpec.ofChange fnExactCheckMenuWrong)

/-- 'laws.FnWholeSteps': WHATEVER THE INPUT: true; the input reads as it did. -/
def fnWholeStepsSpec : ChangeSpec := { name := "fnWholeSteps", fn := fun _ => fun
  | [d1, d2] => { results := [.lit (.bool true)], args := [d1, d2] }
  | _ => none }
def fnWholeStepsRow : OpenClaim := { program := "ytnfeddnkokocfaa", sum := "70855a3afad95473437efe5d7275a426cfdd6449260a17d4116bdefd68d6b826", func := "loop.example/rotorciphers/laws.FnWholeSteps", spec := "fnWholeSteps", inPlace := ["internal/bytealg.IndexByteString"], apart := false }
def FnWholeStepsSaid : Prop := fnWholeStepsRow.holds Try.pinned (OpenSpec.ofChange fnWholeStepsSpec)

/-- ITS FALSE NEIGHBOUR: 'it returns false'. Refute it at one input. -/
def fnWholeStepsWrong : ChangeSpec := { name := "fnWholeSteps", fn := fun _ => fun
  | [d1, d2] => { results := [.lit (.bool false)], args := [d1, d2] }
  | _ => none }
def FnWholeStepsWrongFalsely : Prop := fnWholeStepsRow.holds Try.pinned (OpenSpec.ofChange fnWholeStepsWrong)

/-- 'laws.FnKeyPermsLater': WHATEVER THE INPUT: true; the input reads as it did. -/
def fnKeyPermsLaterSpec : ChangeSpec := { name := "fnKeyPermsLater", fn := fun _ => fun
  | [d] => { results := [.lit (.bool true)], args := [d] }
  | _ => none }
def fnKeyPermsLaterRow : OpenClaim := { program := "ytnfeddnkokocfaa", sum := "70855a3afad95473437efe5d7275a426cfdd6449260a17d4116bdefd68d6b826", func := "loop.example/rotorciphers/laws.FnKeyPermsLater", spec := "fnKeyPermsLater", inPlace := ["internal/bytealg.IndexByteString"], unfollowed := true, recurses := true, apart := false }
def FnKeyPermsLaterSaid : Prop := fnKeyPermsLaterRow.holds Try.pinned (OpenSpec.ofChange fnKeyPermsLaterSpec)

/-- ITS FALSE NEIGHBOUR: 'it returns false'. Refute it at one input. -/
def fnKeyPermsLaterWrong : ChangeSpec := { name := "fnKeyPermsLater", fn := fun _ => fun
  | [d] => { results := [.lit (.bool false)], args := [d] }
  | _ => none }
def FnKeyPermsLaterWrongFalsely : Prop := fnKeyPermsLaterRow.holds Try.pinned (OpenSpec.ofChange fnKeyPermsLaterWrong)

/-- 'laws.FnKeyPermsSteps': WHATEVER THE INPUT: true; the input reads as it did. -/
def fnKeyPermsStepsSpec : ChangeSpec := { name := "fnKeyPermsSteps", fn := fun _ => fun
  | [d] => { results := [.lit (.bool true)], args := [d] }
  | _ => none }
def fnKeyPermsStepsRow : OpenClaim := { program := "ytnfeddnkokocfaa", sum := "70855a3afad95473437efe5d7275a426cfdd6449260a17d4116bdefd68d6b826", func := "loop.example/rotorciphers/laws.FnKeyPermsSteps", spec := "fnKeyPermsSteps", inPlace := ["internal/bytealg.IndexByteString"], unfollowed := true, recurses := true, apart := false }
def FnKeyPermsStepsSaid : Prop := fnKeyPermsStepsRow.holds Try.pinned (OpenSpec.ofChange fnKeyPermsStepsSpec)

/-- ITS FALSE NEIGHBOUR: 'it returns false'. Refute it at one input. -/
def fnKeyPermsStepsWrong : ChangeSpec := { name := "fnKeyPermsSteps", fn := fun _ => fun
  | [d] => { results := [.lit (.bool false)], args := [d] }
  | _ => none }
def FnKeyPermsStepsWrongFalsely : Prop := fnKeyPermsStepsRow.holds Try.pinned (OpenSpec.ofChange fnKeyPermsStepsWrong)

/- THE SECOND FORM. 'bulk': how many values and letters a reading holds, each counted each time it is reached (what is shared counts as often as it is met; a slice's spare places count too). A statement '..UptoSaid' is the law's where the arguments, and the package variables that the reading takes, are together of bulk at most 1048576: NARROWER than '..Said'. Prove '..Said' where nothing that the law and all that it calls make is longer than what came in: it says more and counts as full. Else prove '..UptoSaid'. A law counts once. -/
mutual
def uptoBulk {H : Type} : DataW H → Nat
  | .lit (.string bytes) => bytes.length + 1
  | .lit _ => 1
  | .nil => 1
  | .ptr d => uptoBulk d + 1
  | .slice elems spare => uptoBulkAll elems + uptoBulkAll spare + 1
  | .agg parts => uptoBulkAll parts + 1
  | .iface _ d => uptoBulk d + 1
  | .map entries => uptoBulkEntries entries + 1
  | .held _ => 1
def uptoBulkAll {H : Type} : List (DataW H) → Nat
  | [] => 0
  | d :: r => uptoBulk d + uptoBulkAll r
def uptoBulkEntries {H : Type} : List (Lit × DataW H) → Nat
  | [] => 0
  | x :: r => uptoBulkEntry x + uptoBulkEntries r
def uptoBulkEntry {H : Type} : Lit × DataW H → Nat
  | (.string bytes, d) => bytes.length + uptoBulk d + 1
  | (_, d) => uptoBulk d + 1
 end
def uptoSmall : (H : Type) → List (DataW H) → Bool := fun _ ds => decide (uptoBulkAll ds ≤ 1048576)
def OpenSpec.upto (s : _root_.Go.ChangeSpec) : _root_.Go.OpenSpec := { _root_.Go.OpenSpec.ofChange s with cond := some uptoSmall }

/-- 'laws.FnExactHasRepeat', WHERE WHAT IT READS IS OF BULK AT MOST 1048576: true; the input reads as it did. -/
def fnExactHasRepeatUptoRow : OpenClaim := { program := "ytnfeddnkokocfaa", sum := "70855a3afad95473437efe5d7275a426cfdd6449260a17d4116bdefd68d6b826", func := "loop.example/rotorciphers/laws.FnExactHasRepeat", spec := "fnExactHasRepeat", inPlace := ["internal/bytealg.IndexByteString"], unfollowed := true, recurses := true, apart := false, narrowed := true }
def FnExactHasRepeatUptoSaid : Prop := fnExactHasRepeatUptoRow.holds Try.pinned (OpenSpec.upto fnExactHasRepeatSpec)

/-- 'laws.FnExactRepeatCount', WHERE WHAT IT READS IS OF BULK AT MOST 1048576: true; the input reads as it did. -/
def fnExactRepeatCountUptoRow : OpenClaim := { program := "ytnfeddnkokocfaa", sum := "70855a3afad95473437efe5d7275a426cfdd6449260a17d4116bdefd68d6b826", func := "loop.example/rotorciphers/laws.FnExactRepeatCount", spec := "fnExactRepeatCount", inPlace := ["internal/bytealg.IndexByteString"], unfollowed := true, recurses := true, apart := false, narrowed := true }
def FnExactRepeatCountUptoSaid : Prop := fnExactRepeatCountUptoRow.holds Try.pinned (OpenSpec.upto fnExactRepeatCountSpec)

/-- 'laws.FnExactSheetRow', WHERE WHAT IT READS IS OF BULK AT MOST 1048576: true; the input reads as it did. -/
def fnExactSheetRowUptoRow : OpenClaim := { program := "ytnfeddnkokocfaa", sum := "70855a3afad95473437efe5d7275a426cfdd6449260a17d4116bdefd68d6b826", func := "loop.example/rotorciphers/laws.FnExactSheetRow", spec := "fnExactSheetRow", inPlace := ["internal/bytealg.IndexByteString"], unfollowed := true, recurses := true, apart := false, narrowed := true }
def FnExactSheetRowUptoSaid : Prop := fnExactSheetRowUptoRow.holds Try.pinned (OpenSpec.upto fnExactSheetRowSpec)

/-- 'laws.FnExactOpenMessage', WHERE WHAT IT READS IS OF BULK AT MOST 1048576: true; the input reads as it did. -/
def fnExactOpenMessageUptoRow : OpenClaim := { program := "ytnfeddnkokocfaa", sum := "70855a3afad95473437efe5d7275a426cfdd6449260a17d4116bdefd68d6b826", func := "loop.example/rotorciphers/laws.FnExactOpenMessage", spec := "fnExactOpenMessage", inPlace := ["internal/bytealg.IndexByteString"], unfollowed := true, recurses := true, apart := false, narrowed := true }
def FnExactOpenMessageUptoSaid : Prop := fnExactOpenMessageUptoRow.holds Try.pinned (OpenSpec.upto fnExactOpenMessageSpec)

/-- 'laws.FnExactKeyPerms', WHERE WHAT IT READS IS OF BULK AT MOST 1048576: true; the input reads as it did. -/
def fnExactKeyPermsUptoRow : OpenClaim := { program := "ytnfeddnkokocfaa", sum := "70855a3afad95473437efe5d7275a426cfdd6449260a17d4116bdefd68d6b826", func := "loop.example/rotorciphers/laws.FnExactKeyPerms", spec := "fnExactKeyPerms", inPlace := ["internal/bytealg.IndexByteString"], unfollowed := true, recurses := true, apart := false, narrowed := true }
def FnExactKeyPermsUptoSaid : Prop := fnExactKeyPermsUptoRow.holds Try.pinned (OpenSpec.upto fnExactKeyPermsSpec)

/-- 'laws.FnExactDayProducts', WHERE WHAT IT READS IS OF BULK AT MOST 1048576: true; the input reads as it did. -/
def fnExactDayProductsUptoRow : OpenClaim := { program := "ytnfeddnkokocfaa", sum := "70855a3afad95473437efe5d7275a426cfdd6449260a17d4116bdefd68d6b826", func := "loop.example/rotorciphers/laws.FnExactDayProducts", spec := "fnExactDayProducts", inPlace := ["internal/bytealg.IndexByteString"], unfollowed := true, recurses := true, apart := false, narrowed := true }
def FnExactDayProductsUptoSaid : Prop := fnExactDayProductsUptoRow.holds Try.pinned (OpenSpec.upto fnExactDayProductsSpec)

/-- 'laws.FnExactCheckMenu', WHERE WHAT IT READS IS OF BULK AT MOST 1048576: true; the input reads as it did. -/
def fnExactCheckMenuUptoRow : OpenClaim := { program := "ytnfeddnkokocfaa", sum := "70855a3afad95473437efe5d7275a426cfdd6449260a17d4116bdefd68d6b826", func := "loop.example/rotorciphers/laws.FnExactCheckMenu", spec := "fnExactCheckMenu", inPlace := ["internal/bytealg.IndexByteString"], unfollowed := true, recurses := true, apart := false, narrowed := true }
def FnExactCheckMenuUptoSaid : Prop := fnExactCheckMenuUptoRow.holds Try.pinned (OpenSpec.upto fnExactCheckMenuSpec)

/-- 'laws.FnWholeSteps', WHERE WHAT IT READS IS OF BULK AT MOST 1048576: true; the input reads as it did. -/
def fnWholeStepsUptoRow : OpenClaim := { program := "ytnfeddnkokocfaa", sum := "70855a3afad95473437efe5d7275a426cfdd6449260a17d4116bdefd68d6b826", func := "loop.example/rotorciphers/laws.FnWholeSteps", spec := "fnWholeSteps", inPlace := ["internal/bytealg.IndexByteString"], apart := false, narrowed := true }
def FnWholeStepsUptoSaid : Prop := fnWholeStepsUptoRow.holds Try.pinned (OpenSpec.upto fnWholeStepsSpec)

/-- 'laws.FnKeyPermsLater', WHERE WHAT IT READS IS OF BULK AT MOST 1048576: true; the input reads as it did. -/
def fnKeyPermsLaterUptoRow : OpenClaim := { program := "ytnfeddnkokocfaa", sum := "70855a3afad95473437efe5d7275a426cfdd6449260a17d4116bdefd68d6b826", func := "loop.example/rotorciphers/laws.FnKeyPermsLater", spec := "fnKeyPermsLater", inPlace := ["internal/bytealg.IndexByteString"], unfollowed := true, recurses := true, apart := false, narrowed := true }
def FnKeyPermsLaterUptoSaid : Prop := fnKeyPermsLaterUptoRow.holds Try.pinned (OpenSpec.upto fnKeyPermsLaterSpec)

/-- 'laws.FnKeyPermsSteps', WHERE WHAT IT READS IS OF BULK AT MOST 1048576: true; the input reads as it did. -/
def fnKeyPermsStepsUptoRow : OpenClaim := { program := "ytnfeddnkokocfaa", sum := "70855a3afad95473437efe5d7275a426cfdd6449260a17d4116bdefd68d6b826", func := "loop.example/rotorciphers/laws.FnKeyPermsSteps", spec := "fnKeyPermsSteps", inPlace := ["internal/bytealg.IndexByteString"], unfollowed := true, recurses := true, apart := false, narrowed := true }
def FnKeyPermsStepsUptoSaid : Prop := fnKeyPermsStepsUptoRow.holds Try.pinned (OpenSpec.upto fnKeyPermsStepsSpec)

end Rows
end Go.Proofs.Ytnfeddnkokocfaa
