/-
  No cell of these rows narrows 'for every input' (looked for: loops, veiled, ifaces, maps, wideKeys, modest, calm, conditions, laid).
  DERIVED. THE GIVEN ROWS OF THIS SEAT. 11 by the template 'for every input the law returns true; each argument reads behind the call as it read before'; 0 by the template 'total and deterministic' (their statements: YtogeakpfnpnmcaaTotals.lean).
  GIVEN WITH THE SEED: the statements are not yours to turn. If you find one false, say at which input.
  Laid BY PROGRAM, IN A SANDBOX (cutbox-rows.mjs): the forced cells as the released guide's own fill.sh prints them over the translation 27268ef8e2b2f2ab… (all of the seat's roots in one cut). By AI agents, Wed Nov 11 2026. No macro, syntax, notation, axiom, sorry.
-/
import Derived.Test.YtogeakpfnpnmcaaChecked
import GoSem.Claim
import GoSem.ClaimJoined
import GoSem.ClaimMapViews
import Derived.JoinedTies
import Derived.KernelRfl
namespace Go.Proofs.Ytogeakpfnpnmcaa
/- THE CELL 'sum', in the pinned program and in every row, IS THE sha256 OF THE DUMP (.gsa) THAT YtogeakpfnpnmcaaProg.lean LOADS. Nothing in Lean hashes anything: it is a label: what it is worth is what the hold of that sum in a sandbox is worth. -/
noncomputable def Try.pinned : Pinned := { name := "ytogeakpfnpnmcaa", sum := "27268ef8e2b2f2abe617fcdae7a3332551c78b7d787a616ae5aff1a6357b8414", checked := Try.checked }
namespace Rows
def none {H : Type} : Left H := { results := [], args := [] }

/-- 'laws.FnExactEncipher': WHATEVER THE INPUT: true; the input reads as it did. -/
def fnExactEncipherSpec : ChangeSpec := { name := "fnExactEncipher", fn := fun _ => fun
  | [d1, d2, d3] => { results := [.lit (.bool true)], args := [d1, d2, d3] }
  | _ => none }
def fnExactEncipherRow : OpenClaim := { program := "ytogeakpfnpnmcaa", sum := "27268ef8e2b2f2abe617fcdae7a3332551c78b7d787a616ae5aff1a6357b8414", func := "loop.example/rotorciphers/laws.FnExactEncipher", spec := "fnExactEncipher", inPlace := ["internal/bytealg.IndexByteString"], unfollowed := true, recurses := true, apart := false }
def FnExactEncipherSaid : Prop := fnExactEncipherRow.holds Try.pinned (OpenSpec.ofChange fnExactEncipherSpec)

/-- ITS FALSE NEIGHBOUR: 'it returns false'. Refute it at one input. -/
def fnExactEncipherWrong : ChangeSpec := { name := "fnExactEncipher", fn := fun _ => fun
  | [d1, d2, d3] => { results := [.lit (.bool false)], args := [d1, d2, d3] }
  | _ => none }
def FnExactEncipherWrongFalsely : Prop := fnExactEncipherRow.holds Try.pinned (OpenSpec.ofChange fnExactEncipherWrong)

/-- 'laws.FnExactHasRepeat': WHATEVER THE INPUT: true; the input reads as it did. -/
def fnExactHasRepeatSpec : ChangeSpec := { name := "fnExactHasRepeat", fn := fun _ => fun
  | [d1, d2, d3] => { results := [.lit (.bool true)], args := [d1, d2, d3] }
  | _ => none }
def fnExactHasRepeatRow : OpenClaim := { program := "ytogeakpfnpnmcaa", sum := "27268ef8e2b2f2abe617fcdae7a3332551c78b7d787a616ae5aff1a6357b8414", func := "loop.example/rotorciphers/laws.FnExactHasRepeat", spec := "fnExactHasRepeat", inPlace := ["internal/bytealg.IndexByteString"], unfollowed := true, recurses := true, apart := false }
def FnExactHasRepeatSaid : Prop := fnExactHasRepeatRow.holds Try.pinned (OpenSpec.ofChange fnExactHasRepeatSpec)

/-- ITS FALSE NEIGHBOUR: 'it returns false'. Refute it at one input. -/
def fnExactHasRepeatWrong : ChangeSpec := { name := "fnExactHasRepeat", fn := fun _ => fun
  | [d1, d2, d3] => { results := [.lit (.bool false)], args := [d1, d2, d3] }
  | _ => none }
def FnExactHasRepeatWrongFalsely : Prop := fnExactHasRepeatRow.holds Try.pinned (OpenSpec.ofChange fnExactHasRepeatWrong)

/-- 'laws.FnExactDoubleIndicator': WHATEVER THE INPUT: true; the input reads as it did. -/
def fnExactDoubleIndicatorSpec : ChangeSpec := { name := "fnExactDoubleIndicator", fn := fun _ => fun
  | [d1, d2, d3] => { results := [.lit (.bool true)], args := [d1, d2, d3] }
  | _ => none }
def fnExactDoubleIndicatorRow : OpenClaim := { program := "ytogeakpfnpnmcaa", sum := "27268ef8e2b2f2abe617fcdae7a3332551c78b7d787a616ae5aff1a6357b8414", func := "loop.example/rotorciphers/laws.FnExactDoubleIndicator", spec := "fnExactDoubleIndicator", inPlace := ["internal/bytealg.IndexByteString"], unfollowed := true, recurses := true, apart := false }
def FnExactDoubleIndicatorSaid : Prop := fnExactDoubleIndicatorRow.holds Try.pinned (OpenSpec.ofChange fnExactDoubleIndicatorSpec)

/-- ITS FALSE NEIGHBOUR: 'it returns false'. Refute it at one input. -/
def fnExactDoubleIndicatorWrong : ChangeSpec := { name := "fnExactDoubleIndicator", fn := fun _ => fun
  | [d1, d2, d3] => { results := [.lit (.bool false)], args := [d1, d2, d3] }
  | _ => none }
def FnExactDoubleIndicatorWrongFalsely : Prop := fnExactDoubleIndicatorRow.holds Try.pinned (OpenSpec.ofChange fnExactDoubleIndicatorWrong)

/-- 'laws.FnExactReadDouble': WHATEVER THE INPUT: true; the input reads as it did. -/
def fnExactReadDoubleSpec : ChangeSpec := { name := "fnExactReadDouble", fn := fun _ => fun
  | [d1, d2, d3] => { results := [.lit (.bool true)], args := [d1, d2, d3] }
  | _ => none }
def fnExactReadDoubleRow : OpenClaim := { program := "ytogeakpfnpnmcaa", sum := "27268ef8e2b2f2abe617fcdae7a3332551c78b7d787a616ae5aff1a6357b8414", func := "loop.example/rotorciphers/laws.FnExactReadDouble", spec := "fnExactReadDouble", inPlace := ["internal/bytealg.IndexByteString"], unfollowed := true, recurses := true, apart := false }
def FnExactReadDoubleSaid : Prop := fnExactReadDoubleRow.holds Try.pinned (OpenSpec.ofChange fnExactReadDoubleSpec)

/-- ITS FALSE NEIGHBOUR: 'it returns false'. Refute it at one input. -/
def fnExactReadDoubleWrong : ChangeSpec := { name := "fnExactReadDouble", fn := fun _ => fun
  | [d1, d2, d3] => { results := [.lit (.bool false)], args := [d1, d2, d3] }
  | _ => none }
def FnExactReadDoubleWrongFalsely : Prop := fnExactReadDoubleRow.holds Try.pinned (OpenSpec.ofChange fnExactReadDoubleWrong)

/-- 'laws.FnExactSealMessage': WHATEVER THE INPUT: true; the input reads as it did. -/
def fnExactSealMessageSpec : ChangeSpec := { name := "fnExactSealMessage", fn := fun _ => fun
  | [d1, d2, d3, d4] => { results := [.lit (.bool true)], args := [d1, d2, d3, d4] }
  | _ => none }
def fnExactSealMessageRow : OpenClaim := { program := "ytogeakpfnpnmcaa", sum := "27268ef8e2b2f2abe617fcdae7a3332551c78b7d787a616ae5aff1a6357b8414", func := "loop.example/rotorciphers/laws.FnExactSealMessage", spec := "fnExactSealMessage", inPlace := ["internal/bytealg.IndexByteString"], unfollowed := true, recurses := true, apart := false }
def FnExactSealMessageSaid : Prop := fnExactSealMessageRow.holds Try.pinned (OpenSpec.ofChange fnExactSealMessageSpec)

/-- ITS FALSE NEIGHBOUR: 'it returns false'. Refute it at one input. -/
def fnExactSealMessageWrong : ChangeSpec := { name := "fnExactSealMessage", fn := fun _ => fun
  | [d1, d2, d3, d4] => { results := [.lit (.bool false)], args := [d1, d2, d3, d4] }
  | _ => none }
def FnExactSealMessageWrongFalsely : Prop := fnExactSealMessageRow.holds Try.pinned (OpenSpec.ofChange fnExactSealMessageWrong)

/-- 'laws.FnExactRepeatCount': WHATEVER THE INPUT: true; the input reads as it did. -/
def fnExactRepeatCountSpec : ChangeSpec := { name := "fnExactRepeatCount", fn := fun _ => fun
  | [d1, d2] => { results := [.lit (.bool true)], args := [d1, d2] }
  | _ => none }
def fnExactRepeatCountRow : OpenClaim := { program := "ytogeakpfnpnmcaa", sum := "27268ef8e2b2f2abe617fcdae7a3332551c78b7d787a616ae5aff1a6357b8414", func := "loop.example/rotorciphers/laws.FnExactRepeatCount", spec := "fnExactRepeatCount", inPlace := ["internal/bytealg.IndexByteString"], unfollowed := true, recurses := true, apart := false }
def FnExactRepeatCountSaid : Prop := fnExactRepeatCountRow.holds Try.pinned (OpenSpec.ofChange fnExactRepeatCountSpec)

/-- ITS FALSE NEIGHBOUR: 'it returns false'. Refute it at one input. -/
def fnExactRepeatCountWrong : ChangeSpec := { name := "fnExactRepeatCount", fn := fun _ => fun
  | [d1, d2] => { results := [.lit (.bool false)], args := [d1, d2] }
  | _ => none }
def FnExactRepeatCountWrongFalsely : Prop := fnExactRepeatCountRow.holds Try.pinned (OpenSpec.ofChange fnExactRepeatCountWrong)

/-- 'laws.FnExactSheetRow': WHATEVER THE INPUT: true; the input reads as it did. -/
def fnExactSheetRowSpec : ChangeSpec := { name := "fnExactSheetRow", fn := fun _ => fun
  | [d1, d2, d3] => { results := [.lit (.bool true)], args := [d1, d2, d3] }
  | _ => none }
def fnExactSheetRowRow : OpenClaim := { program := "ytogeakpfnpnmcaa", sum := "27268ef8e2b2f2abe617fcdae7a3332551c78b7d787a616ae5aff1a6357b8414", func := "loop.example/rotorciphers/laws.FnExactSheetRow", spec := "fnExactSheetRow", inPlace := ["internal/bytealg.IndexByteString"], unfollowed := true, recurses := true, apart := false }
def FnExactSheetRowSaid : Prop := fnExactSheetRowRow.holds Try.pinned (OpenSpec.ofChange fnExactSheetRowSpec)

/-- ITS FALSE NEIGHBOUR: 'it returns false'. Refute it at one input. -/
def fnExactSheetRowWrong : ChangeSpec := { name := "fnExactSheetRow", fn := fun _ => fun
  | [d1, d2, d3] => { results := [.lit (.bool false)], args := [d1, d2, d3] }
  | _ => none }
def FnExactSheetRowWrongFalsely : Prop := fnExactSheetRowRow.holds Try.pinned (OpenSpec.ofChange fnExactSheetRowWrong)

/-- 'laws.FnExactOpenMessage': WHATEVER THE INPUT: true; the input reads as it did. -/
def fnExactOpenMessageSpec : ChangeSpec := { name := "fnExactOpenMessage", fn := fun _ => fun
  | [d1, d2] => { results := [.lit (.bool true)], args := [d1, d2] }
  | _ => none }
def fnExactOpenMessageRow : OpenClaim := { program := "ytogeakpfnpnmcaa", sum := "27268ef8e2b2f2abe617fcdae7a3332551c78b7d787a616ae5aff1a6357b8414", func := "loop.example/rotorciphers/laws.FnExactOpenMessage", spec := "fnExactOpenMessage", inPlace := ["internal/bytealg.IndexByteString"], unfollowed := true, recurses := true, apart := false }
def FnExactOpenMessageSaid : Prop := fnExactOpenMessageRow.holds Try.pinned (OpenSpec.ofChange fnExactOpenMessageSpec)

/-- ITS FALSE NEIGHBOUR: 'it returns false'. Refute it at one input. -/
def fnExactOpenMessageWrong : ChangeSpec := { name := "fnExactOpenMessage", fn := fun _ => fun
  | [d1, d2] => { results := [.lit (.bool false)], args := [d1, d2] }
  | _ => none }
def FnExactOpenMessageWrongFalsely : Prop := fnExactOpenMessageRow.holds Try.pinned (OpenSpec.ofChange fnExactOpenMessageWrong)

/-- 'laws.FnExactKeyPerms': WHATEVER THE INPUT: true; the input reads as it did. -/
def fnExactKeyPermsSpec : ChangeSpec := { name := "fnExactKeyPerms", fn := fun _ => fun
  | [d1, d2, d3] => { results := [.lit (.bool true)], args := [d1, d2, d3] }
  | _ => none }
def fnExactKeyPermsRow : OpenClaim := { program := "ytogeakpfnpnmcaa", sum := "27268ef8e2b2f2abe617fcdae7a3332551c78b7d787a616ae5aff1a6357b8414", func := "loop.example/rotorciphers/laws.FnExactKeyPerms", spec := "fnExactKeyPerms", inPlace := ["internal/bytealg.IndexByteString"], unfollowed := true, recurses := true, apart := false }
def FnExactKeyPermsSaid : Prop := fnExactKeyPermsRow.holds Try.pinned (OpenSpec.ofChange fnExactKeyPermsSpec)

/-- ITS FALSE NEIGHBOUR: 'it returns false'. Refute it at one input. -/
def fnExactKeyPermsWrong : ChangeSpec := { name := "fnExactKeyPerms", fn := fun _ => fun
  | [d1, d2, d3] => { results := [.lit (.bool false)], args := [d1, d2, d3] }
  | _ => none }
def FnExactKeyPermsWrongFalsely : Prop := fnExactKeyPermsRow.holds Try.pinned (OpenSpec.ofChange fnExactKeyPermsWrong)

/-- 'laws.FnExactDayProducts': WHATEVER THE INPUT: true; the input reads as it did. -/
def fnExactDayProductsSpec : ChangeSpec := { name := "fnExactDayProducts", fn := fun _ => fun
  | [d1, d2] => { results := [.lit (.bool true)], args := [d1, d2] }
  | _ => none }
def fnExactDayProductsRow : OpenClaim := { program := "ytogeakpfnpnmcaa", sum := "27268ef8e2b2f2abe617fcdae7a3332551c78b7d787a616ae5aff1a6357b8414", func := "loop.example/rotorciphers/laws.FnExactDayProducts", spec := "fnExactDayProducts", inPlace := ["internal/bytealg.IndexByteString"], unfollowed := true, recurses := true, apart := false }
def FnExactDayProductsSaid : Prop := fnExactDayProductsRow.holds Try.pinned (OpenSpec.ofChange fnExactDayProductsSpec)

/-- ITS FALSE NEIGHBOUR: 'it returns false'. Refute it at one input. -/
def fnExactDayProductsWrong : ChangeSpec := { name := "fnExactDayProducts", fn := fun _ => fun
  | [d1, d2] => { results := [.lit (.bool false)], args := [d1, d2] }
  | _ => none }
def FnExactDayProductsWrongFalsely : Prop := fnExactDayProductsRow.holds Try.pinned (OpenSpec.ofChange fnExactDayProductsWrong)

/-- 'laws.FnExactCheckMenu': WHATEVER THE INPUT: true; the input reads as it did. -/
def fnExactCheckMenuSpec : ChangeSpec := { name := "fnExactCheckMenu", fn := fun _ => fun
  | [d1, d2, d3] => { results := [.lit (.bool true)], args := [d1, d2, d3] }
  | _ => none }
def fnExactCheckMenuRow : OpenClaim := { program := "ytogeakpfnpnmcaa", sum := "27268ef8e2b2f2abe617fcdae7a3332551c78b7d787a616ae5aff1a6357b8414", func := "loop.example/rotorciphers/laws.FnExactCheckMenu", spec := "fnExactCheckMenu", inPlace := ["internal/bytealg.IndexByteString"], unfollowed := true, recurses := true, apart := false }
def FnExactCheckMenuSaid : Prop := fnExactCheckMenuRow.holds Try.pinned (OpenSpec.ofChange fnExactCheckMenuSpec)

/-- ITS FALSE NEIGHBOUR: 'it returns false'. Refute it at one input. -/
def fnExactCheckMenuWrong : ChangeSpec := { name := "fnExactCheckMenu", fn := fun _ => fun
  | [d1, d2, d3] => { results := [.lit (.bool false)], args := [d1, d2, d3] }
  | _ => none }
def FnExactCheckMenuWrongFalsely : Prop := fnExactCheckMenuRow.holds Try.pinned (OpenSpec.ofChange fnExactCheckMenuWrong)

/- THE SECOND FORM. 'bulk': how many values and letters a reading holds, each counted each time it is reached (what is shared counts as often as it is met; a slice's spare places count too). A statement '..UptoSaid' is the law's where the arguments, and the package variables that the reading takes, are together of bulk at most 1048576: NARROWER than '..Said'. Prove '..Said' where nothing that the law and all that it calls make is longer than what came in: it says more and counts as full. Else prove '..UptoSaid'. A law counts once. -/
mutual
def uptoBulk {H : Type} : DataW H → Nat
  | .lit (.string bytes) => bytes.length + 1
  | .lit _ => 1
  | .nil => 1
  | .ptr d => uptoBulk d + 1
  | .slice elems spare => uptoBulkAll elems + uptoBulkAll spare + 1
  | .agg parts => uptoBulkAll parts + 1
  | .iface _ d => uptoBulk d + 1
  | .map entries => uptoBulkEntries entries + 1
  | .held _ => 1
def uptoBulkAll {H : Type} : List (DataW H) → Nat
  | [] => 0
  | d :: r => uptoBulk d + uptoBulkAll r
def uptoBulkEntries {H : Type} : List (Lit × DataW H) → Nat
  | [] => 0
  | x :: r => uptoBulkEntry x + uptoBulkEntries r
def uptoBulkEntry {H : Type} : Lit × DataW H → Nat
  | (.string bytes, d) => bytes.length + uptoBulk d + 1
  | (_, d) => uptoBulk d + 1
 end
def uptoSmall : (H : Type) → List (DataW H) → Bool := fun _ ds => decide (uptoBulkAll ds ≤ 1048576)
def OpenSpec.upto (s : _root_.Go.ChangeSpec) : _root_.Go.OpenSpec := { _root_.Go.OpenSpec.ofChange s with cond := some uptoSmall }

/-- 'laws.FnExactEncipher', WHERE WHAT IT READS IS OF BULK AT MOST 1048576: true; the input reads as it did. -/
def fnExactEncipherUptoRow : OpenClaim := { program := "ytogeakpfnpnmcaa", sum := "27268ef8e2b2f2abe617fcdae7a3332551c78b7d787a616ae5aff1a6357b8414", func := "loop.example/rotorciphers/laws.FnExactEncipher", spec := "fnExactEncipher", inPlace := ["internal/bytealg.IndexByteString"], unfollowed := true, recurses := true, apart := false, narrowed := true }
def FnExactEncipherUptoSaid : Prop := fnExactEncipherUptoRow.holds Try.pinned (OpenSpec.upto fnExactEncipherSpec)

/-- 'laws.FnExactHasRepeat', WHERE WHAT IT READS IS OF BULK AT MOST 1048576: true; the input reads as it did. -/
def fnExactHasRepeatUptoRow : OpenClaim := { program := "ytogeakpfnpnmcaa", sum := "27268ef8e2b2f2abe617fcdae7a3332551c78b7d787a616ae5aff1a6357b8414", func := "loop.example/rotorciphers/laws.FnExactHasRepeat", spec := "fnExactHasRepeat", inPlace := ["internal/bytealg.IndexByteString"], unfollowed := true, recurses := true, apart := false, narrowed := true }
def FnExactHasRepeatUptoSaid : Prop := fnExactHasRepeatUptoRow.holds Try.pinned (OpenSpec.upto fnExactHasRepeatSpec)

/-- 'laws.FnExactDoubleIndicator', WHERE WHAT IT READS IS OF BULK AT MOST 1048576: true; the input reads as it did. -/
def fnExactDoubleIndicatorUptoRow : OpenClaim := { program := "ytogeakpfnpnmcaa", sum := "27268ef8e2b2f2abe617fcdae7a3332551c78b7d787a616ae5aff1a6357b8414", func := "loop.example/rotorciphers/laws.FnExactDoubleIndicator", spec := "fnExactDoubleIndicator", inPlace := ["internal/bytealg.IndexByteString"], unfollowed := true, recurses := true, apart := false, narrowed := true }
def FnExactDoubleIndicatorUptoSaid : Prop := fnExactDoubleIndicatorUptoRow.holds Try.pinned (OpenSpec.upto fnExactDoubleIndicatorSpec)

/-- 'laws.FnExactReadDouble', WHERE WHAT IT READS IS OF BULK AT MOST 1048576: true; the input reads as it did. -/
def fnExactReadDoubleUptoRow : OpenClaim := { program := "ytogeakpfnpnmcaa", sum := "27268ef8e2b2f2abe617fcdae7a3332551c78b7d787a616ae5aff1a6357b8414", func := "loop.example/rotorciphers/laws.FnExactReadDouble", spec := "fnExactReadDouble", inPlace := ["internal/bytealg.IndexByteString"], unfollowed := true, recurses := true, apart := false, narrowed := true }
def FnExactReadDoubleUptoSaid : Prop := fnExactReadDoubleUptoRow.holds Try.pinned (OpenSpec.upto fnExactReadDoubleSpec)

/-- 'laws.FnExactSealMessage', WHERE WHAT IT READS IS OF BULK AT MOST 1048576: true; the input reads as it did. -/
def fnExactSealMessageUptoRow : OpenClaim := { program := "ytogeakpfnpnmcaa", sum := "27268ef8e2b2f2abe617fcdae7a3332551c78b7d787a616ae5aff1a6357b8414", func := "loop.example/rotorciphers/laws.FnExactSealMessage", spec := "fnExactSealMessage", inPlace := ["internal/bytealg.IndexByteString"], unfollowed := true, recurses := true, apart := false, narrowed := true }
def FnExactSealMessageUptoSaid : Prop := fnExactSealMessageUptoRow.holds Try.pinned (OpenSpec.upto fnExactSealMessageSpec)

/-- 'laws.FnExactRepeatCount', WHERE WHAT IT READS IS OF BULK AT MOST 1048576: true; the input reads as it did. -/
def fnExactRepeatCountUptoRow : OpenClaim := { program := "ytogeakpfnpnmcaa", sum := "27268ef8e2b2f2abe617fcdae7a3332551c78b7d787a616ae5aff1a6357b8414", func := "loop.example/rotorciphers/laws.FnExactRepeatCount", spec := "fnExactRepeatCount", inPlace := ["internal/bytealg.IndexByteString"], unfollowed := true, recurses := true, apart := false, narrowed := true }
def FnExactRepeatCountUptoSaid : Prop := fnExactRepeatCountUptoRow.holds Try.pinned (OpenSpec.upto fnExactRepeatCountSpec)

/-- 'laws.FnExactSheetRow', WHERE WHAT IT READS IS OF BULK AT MOST 1048576: true; the input reads as it did. -/
def fnExactSheetRowUptoRow : OpenClaim := { program := "ytogeakpfnpnmcaa", sum := "27268ef8e2b2f2abe617fcdae7a3332551c78b7d787a616ae5aff1a6357b8414", func := "loop.example/rotorciphers/laws.FnExactSheetRow", spec := "fnExactSheetRow", inPlace := ["internal/bytealg.IndexByteString"], unfollowed := true, recurses := true, apart := false, narrowed := true }
def FnExactSheetRowUptoSaid : Prop := fnExactSheetRowUptoRow.holds Try.pinned (OpenSpec.upto fnExactSheetRowSpec)

/-- 'laws.FnExactOpenMessage', WHERE WHAT IT READS IS OF BULK AT MOST 1048576: true; the input reads as it did. -/
def fnExactOpenMessageUptoRow : OpenClaim := { program := "ytogeakpfnpnmcaa", sum := "27268ef8e2b2f2abe617fcdae7a3332551c78b7d787a616ae5aff1a6357b8414", func := "loop.example/rotorciphers/laws.FnExactOpenMessage", spec := "fnExactOpenMessage", inPlace := ["internal/bytealg.IndexByteString"], unfollowed := true, recurses := true, apart := false, narrowed := true }
def FnExactOpenMessageUptoSaid : Prop := fnExactOpenMessageUptoRow.holds Try.pinned (OpenSpec.upto fnExactOpenMessageSpec)

/-- 'laws.FnExactKeyPerms', WHERE WHAT IT READS IS OF BULK AT MOST 1048576: true; the input reads as it did. -/
def fnExactKeyPermsUptoRow : OpenClaim := { program := "ytogeakpfnpnmcaa", sum := "27268ef8e2b2f2abe617fcdae7a3332551c78b7d787a616ae5aff1a6357b8414", func := "loop.example/rotorciphers/laws.FnExactKeyPerms", spec := "fnExactKeyPerms", inPlace := ["internal/bytealg.IndexByteString"], unfollowed := true, recurses := true, apart := false, narrowed := true }
def FnExactKeyPermsUptoSaid : Prop := fnExactKeyPermsUptoRow.holds Try.pinned (OpenSpec.upto fnExactKeyPermsSpec)

/-- 'laws.FnExactDayProducts', WHERE WHAT IT READS IS OF BULK AT MOST 1048576: true; the input reads as it did. -/
def fnExactDayProductsUptoRow : OpenClaim := { program := "ytogeakpfnpnmcaa", sum := "27268ef8e2b2f2abe617fcdae7a3332551c78b7d787a616ae5aff1a6357b8414", func := "loop.example/rotorciphers/laws.FnExactDayProducts", spec := "fnExactDayProducts", inPlace := ["internal/bytealg.IndexByteString"], unfollowed := true, recurses := true, apart := false, narrowed := true }
def FnExactDayProductsUptoSaid : Prop := fnExactDayProductsUptoRow.holds Try.pinned (OpenSpec.upto fnExactDayProductsSpec)

/-- 'laws.FnExactCheckMenu', WHERE WHAT IT READS IS OF BULK AT MOST 1048576: true; the input reads as it did. -/
def fnExactCheckMenuUptoRow : OpenClaim := { program := "ytogeakpfnpnmcaa", sum := "27268ef8e2b2f2abe617fcdae7a3332551c78b7d787a616ae5aff1a6357b8414", func := "loop.example/rotorciphers/laws.FnExactCheckMenu", spec := "fnExactCheckMenu", inPlace := ["internal/bytealg.IndexByteString"], unfollowed := true, recurses := true, apart := false, narrowed := true }
def FnExactCheckMenuUptoSaid : Prop := fnExactCheckMenuUptoRow.holds Try.pinned (OpenSpec.upto fnExactCheckMenuSpec)

end Rows
end Go.Proofs.Ytogeakpfnpnmcaa
