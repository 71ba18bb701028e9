/-
  No cell of these rows narrows 'for every input' (looked for: loops, veiled, ifaces, maps, wideKeys, modest, calm, conditions, laid).
  DERIVED. THE GIVEN ROWS OF THIS SEAT. 6 by the template 'for every input the law returns true; each argument reads behind the call as it read before'; 0 by the template 'total and deterministic' (their statements: YthelcpfcamidiaaGreatTotals.lean).
  GIVEN WITH THE SEED: the statements are not yours to turn. If you find one false, say at which input.
  Laid BY PROGRAM, IN A SANDBOX (cutbox-rows.mjs): the forced cells as the released guide's own fill.sh prints them over the translation 95d3611e9932893c… (all of the seat's roots in one cut). By AI agents, Wed Nov 11 2026. No macro, syntax, notation, axiom, sorry.
-/
import Derived.Test.YthelcpfcamidiaaGreatChecked
import GoSem.Claim
import GoSem.ClaimJoined
import GoSem.ClaimMapViews
import Derived.JoinedTies
import Derived.KernelRfl
namespace Go.Proofs.YthelcpfcamidiaaGreat
/- THE CELL 'sum', in the pinned program and in every row, IS THE sha256 OF THE DUMP (.gsa) THAT YthelcpfcamidiaaGreatProg.lean LOADS. Nothing in Lean hashes anything: it is a label: what it is worth is what the hold of that sum in a sandbox is worth. -/
noncomputable def Tryz.pinned : Pinned := { name := "ythelcpfcamidiaagreat", sum := "95d3611e9932893c3a0541b2a9367c3c9cebb80abe67f9b07035157e3df96313", checked := Tryz.checked }
namespace Rows
def none {H : Type} : Left H := { results := [], args := [] }

/-- 'laws.FnSheetRow': WHATEVER THE INPUT: true; the input reads as it did. -/
def fnSheetRowSpec : ChangeSpec := { name := "fnSheetRow", fn := fun _ => fun
  | [d] => { results := [.lit (.bool true)], args := [d] }
  | _ => none }
def fnSheetRowRow : OpenClaim := { program := "ythelcpfcamidiaagreat", sum := "95d3611e9932893c3a0541b2a9367c3c9cebb80abe67f9b07035157e3df96313", func := "loop.example/rotorciphers/laws.FnSheetRow", spec := "fnSheetRow", inPlace := ["internal/bytealg.IndexByteString"], unfollowed := true, recurses := true, apart := false }
def FnSheetRowSaid : Prop := fnSheetRowRow.holds Tryz.pinned (OpenSpec.ofChange fnSheetRowSpec)

/-- ITS FALSE NEIGHBOUR: 'it returns false'. Refute it at one input. -/
def fnSheetRowWrong : ChangeSpec := { name := "fnSheetRow", fn := fun _ => fun
  | [d] => { results := [.lit (.bool false)], args := [d] }
  | _ => none }
def FnSheetRowWrongFalsely : Prop := fnSheetRowRow.holds Tryz.pinned (OpenSpec.ofChange fnSheetRowWrong)

/-- 'laws.FnEncipherFits': WHATEVER THE INPUT: true; the input reads as it did. -/
def fnEncipherFitsSpec : ChangeSpec := { name := "fnEncipherFits", fn := fun _ => fun
  | [d] => { results := [.lit (.bool true)], args := [d] }
  | _ => none }
def fnEncipherFitsRow : OpenClaim := { program := "ythelcpfcamidiaagreat", sum := "95d3611e9932893c3a0541b2a9367c3c9cebb80abe67f9b07035157e3df96313", func := "loop.example/rotorciphers/laws.FnEncipherFits", spec := "fnEncipherFits", inPlace := ["internal/bytealg.IndexByteString"], unfollowed := true, recurses := true, apart := false }
def FnEncipherFitsSaid : Prop := fnEncipherFitsRow.holds Tryz.pinned (OpenSpec.ofChange fnEncipherFitsSpec)

/-- ITS FALSE NEIGHBOUR: 'it returns false'. Refute it at one input. -/
def fnEncipherFitsWrong : ChangeSpec := { name := "fnEncipherFits", fn := fun _ => fun
  | [d] => { results := [.lit (.bool false)], args := [d] }
  | _ => none }
def FnEncipherFitsWrongFalsely : Prop := fnEncipherFitsRow.holds Tryz.pinned (OpenSpec.ofChange fnEncipherFitsWrong)

/-- 'laws.FnRepeatCount': WHATEVER THE INPUT: true; the input reads as it did. -/
def fnRepeatCountSpec : ChangeSpec := { name := "fnRepeatCount", fn := fun _ => fun
  | [d] => { results := [.lit (.bool true)], args := [d] }
  | _ => none }
def fnRepeatCountRow : OpenClaim := { program := "ythelcpfcamidiaagreat", sum := "95d3611e9932893c3a0541b2a9367c3c9cebb80abe67f9b07035157e3df96313", func := "loop.example/rotorciphers/laws.FnRepeatCount", spec := "fnRepeatCount", inPlace := ["internal/bytealg.IndexByteString"], unfollowed := true, recurses := true, apart := false }
def FnRepeatCountSaid : Prop := fnRepeatCountRow.holds Tryz.pinned (OpenSpec.ofChange fnRepeatCountSpec)

/-- ITS FALSE NEIGHBOUR: 'it returns false'. Refute it at one input. -/
def fnRepeatCountWrong : ChangeSpec := { name := "fnRepeatCount", fn := fun _ => fun
  | [d] => { results := [.lit (.bool false)], args := [d] }
  | _ => none }
def FnRepeatCountWrongFalsely : Prop := fnRepeatCountRow.holds Tryz.pinned (OpenSpec.ofChange fnRepeatCountWrong)

/-- 'laws.FnHasRepeatPlugs': WHATEVER THE INPUT: true; the input reads as it did. -/
def fnHasRepeatPlugsSpec : ChangeSpec := { name := "fnHasRepeatPlugs", fn := fun _ => fun
  | [d1, d2] => { results := [.lit (.bool true)], args := [d1, d2] }
  | _ => none }
def fnHasRepeatPlugsRow : OpenClaim := { program := "ythelcpfcamidiaagreat", sum := "95d3611e9932893c3a0541b2a9367c3c9cebb80abe67f9b07035157e3df96313", func := "loop.example/rotorciphers/laws.FnHasRepeatPlugs", spec := "fnHasRepeatPlugs", inPlace := ["internal/bytealg.IndexByteString"], unfollowed := true, recurses := true, apart := false }
def FnHasRepeatPlugsSaid : Prop := fnHasRepeatPlugsRow.holds Tryz.pinned (OpenSpec.ofChange fnHasRepeatPlugsSpec)

/-- ITS FALSE NEIGHBOUR: 'it returns false'. Refute it at one input. -/
def fnHasRepeatPlugsWrong : ChangeSpec := { name := "fnHasRepeatPlugs", fn := fun _ => fun
  | [d1, d2] => { results := [.lit (.bool false)], args := [d1, d2] }
  | _ => none }
def FnHasRepeatPlugsWrongFalsely : Prop := fnHasRepeatPlugsRow.holds Tryz.pinned (OpenSpec.ofChange fnHasRepeatPlugsWrong)

/-- 'laws.FnProductsPlugs': WHATEVER THE INPUT: true; the input reads as it did. -/
def fnProductsPlugsSpec : ChangeSpec := { name := "fnProductsPlugs", fn := fun _ => fun
  | [d] => { results := [.lit (.bool true)], args := [d] }
  | _ => none }
def fnProductsPlugsRow : OpenClaim := { program := "ythelcpfcamidiaagreat", sum := "95d3611e9932893c3a0541b2a9367c3c9cebb80abe67f9b07035157e3df96313", func := "loop.example/rotorciphers/laws.FnProductsPlugs", spec := "fnProductsPlugs", inPlace := ["internal/bytealg.IndexByteString"], unfollowed := true, recurses := true, apart := false }
def FnProductsPlugsSaid : Prop := fnProductsPlugsRow.holds Tryz.pinned (OpenSpec.ofChange fnProductsPlugsSpec)

/-- ITS FALSE NEIGHBOUR: 'it returns false'. Refute it at one input. -/
def fnProductsPlugsWrong : ChangeSpec := { name := "fnProductsPlugs", fn := fun _ => fun
  | [d] => { results := [.lit (.bool false)], args := [d] }
  | _ => none }
def FnProductsPlugsWrongFalsely : Prop := fnProductsPlugsRow.holds Tryz.pinned (OpenSpec.ofChange fnProductsPlugsWrong)

/-- 'laws.FnHasRepeatKey': WHATEVER THE INPUT: true; the input reads as it did. -/
def fnHasRepeatKeySpec : ChangeSpec := { name := "fnHasRepeatKey", fn := fun _ => fun
  | [d] => { results := [.lit (.bool true)], args := [d] }
  | _ => none }
def fnHasRepeatKeyRow : OpenClaim := { program := "ythelcpfcamidiaagreat", sum := "95d3611e9932893c3a0541b2a9367c3c9cebb80abe67f9b07035157e3df96313", func := "loop.example/rotorciphers/laws.FnHasRepeatKey", spec := "fnHasRepeatKey", inPlace := ["internal/bytealg.IndexByteString"], unfollowed := true, recurses := true, apart := false }
def FnHasRepeatKeySaid : Prop := fnHasRepeatKeyRow.holds Tryz.pinned (OpenSpec.ofChange fnHasRepeatKeySpec)

/-- ITS FALSE NEIGHBOUR: 'it returns false'. Refute it at one input. -/
def fnHasRepeatKeyWrong : ChangeSpec := { name := "fnHasRepeatKey", fn := fun _ => fun
  | [d] => { results := [.lit (.bool false)], args := [d] }
  | _ => none }
def FnHasRepeatKeyWrongFalsely : Prop := fnHasRepeatKeyRow.holds Tryz.pinned (OpenSpec.ofChange fnHasRepeatKeyWrong)

/- THE SECOND FORM. 'bulk': how many values and letters a reading holds, each counted each time it is reached (what is shared counts as often as it is met; a slice's spare places count too). A statement '..UptoSaid' is the law's where the arguments, and the package variables that the reading takes, are together of bulk at most 1048576: NARROWER than '..Said'. Prove '..Said' where nothing that the law and all that it calls make is longer than what came in: it says more and counts as full. Else prove '..UptoSaid'. A law counts once. -/
mutual
def uptoBulk {H : Type} : DataW H → Nat
  | .lit (.string bytes) => bytes.length + 1
  | .lit _ => 1
  | .nil => 1
  | .ptr d => uptoBulk d + 1
  | .slice elems spare => uptoBulkAll elems + uptoBulkAll spare + 1
  | .agg parts => uptoBulkAll parts + 1
  | .iface _ d => uptoBulk d + 1
  | .map entries => uptoBulkEntries entries + 1
  | .held _ => 1
def uptoBulkAll {H : Type} : List (DataW H) → Nat
  | [] => 0
  | d :: r => uptoBulk d + uptoBulkAll r
def uptoBulkEntries {H : Type} : List (Lit × DataW H) → Nat
  | [] => 0
  | x :: r => uptoBulkEntry x + uptoBulkEntries r
def uptoBulkEntry {H : Type} : Lit × DataW H → Nat
  | (.string bytes, d) => bytes.length + uptoBulk d + 1
  | (_, d) => uptoBulk d + 1
 end
def uptoSmall : (H : Type) → List (DataW H) → Bool := fun _ ds => decide (uptoBulkAll ds ≤ 1048576)
def OpenSpec.upto (s : _root_.Go.ChangeSpec) : _root_.Go.OpenSpec := { _root_.Go.OpenSpec.ofChange s with cond := some uptoSmall }

/-- 'laws.FnSheetRow', WHERE WHAT IT READS IS OF BULK AT MOST 1048576: true; the input reads as it did. -/
def fnSheetRowUptoRow : OpenClaim := { program := "ythelcpfcamidiaagreat", sum := "95d3611e9932893c3a0541b2a9367c3c9cebb80abe67f9b07035157e3df96313", func := "loop.example/rotorciphers/laws.FnSheetRow", spec := "fnSheetRow", inPlace := ["internal/bytealg.IndexByteString"], unfollowed := true, recurses := true, apart := false, narrowed := true }
def FnSheetRowUptoSaid : Prop := fnSheetRowUptoRow.holds Tryz.pinned (OpenSpec.upto fnSheetRowSpec)

/-- 'laws.FnEncipherFits', WHERE WHAT IT READS IS OF BULK AT MOST 1048576: true; the input reads as it did. -/
def fnEncipherFitsUptoRow : OpenClaim := { program := "ythelcpfcamidiaagreat", sum := "95d3611e9932893c3a0541b2a9367c3c9cebb80abe67f9b07035157e3df96313", func := "loop.example/rotorciphers/laws.FnEncipherFits", spec := "fnEncipherFits", inPlace := ["internal/bytealg.IndexByteString"], unfollowed := true, recurses := true, apart := false, narrowed := true }
def FnEncipherFitsUptoSaid : Prop := fnEncipherFitsUptoRow.holds Tryz.pinned (OpenSpec.upto fnEncipherFitsSpec)

/-- 'laws.FnRepeatCount', WHERE WHAT IT READS IS OF BULK AT MOST 1048576: true; the input reads as it did. -/
def fnRepeatCountUptoRow : OpenClaim := { program := "ythelcpfcamidiaagreat", sum := "95d3611e9932893c3a0541b2a9367c3c9cebb80abe67f9b07035157e3df96313", func := "loop.example/rotorciphers/laws.FnRepeatCount", spec := "fnRepeatCount", inPlace := ["internal/bytealg.IndexByteString"], unfollowed := true, recurses := true, apart := false, narrowed := true }
def FnRepeatCountUptoSaid : Prop := fnRepeatCountUptoRow.holds Tryz.pinned (OpenSpec.upto fnRepeatCountSpec)

/-- 'laws.FnHasRepeatPlugs', WHERE WHAT IT READS IS OF BULK AT MOST 1048576: true; the input reads as it did. -/
def fnHasRepeatPlugsUptoRow : OpenClaim := { program := "ythelcpfcamidiaagreat", sum := "95d3611e9932893c3a0541b2a9367c3c9cebb80abe67f9b07035157e3df96313", func := "loop.example/rotorciphers/laws.FnHasRepeatPlugs", spec := "fnHasRepeatPlugs", inPlace := ["internal/bytealg.IndexByteString"], unfollowed := true, recurses := true, apart := false, narrowed := true }
def FnHasRepeatPlugsUptoSaid : Prop := fnHasRepeatPlugsUptoRow.holds Tryz.pinned (OpenSpec.upto fnHasRepeatPlugsSpec)

/-- 'laws.FnProductsPlugs', WHERE WHAT IT READS IS OF BULK AT MOST 1048576: true; the input reads as it did. -/
def fnProductsPlugsUptoRow : OpenClaim := { program := "ythelcpfcamidiaagreat", sum := "95d3611e9932893c3a0541b2a9367c3c9cebb80abe67f9b07035157e3df96313", func := "loop.example/rotorciphers/laws.FnProductsPlugs", spec := "fnProductsPlugs", inPlace := ["internal/bytealg.IndexByteString"], unfollowed := true, recurses := true, apart := false, narrowed := true }
def FnProductsPlugsUptoSaid : Prop := fnProductsPlugsUptoRow.holds Tryz.pinned (OpenSpec.upto fnProductsPlugsSpec)

/-- 'laws.FnHasRepeatKey', WHERE WHAT IT READS IS OF BULK AT MOST 1048576: true; the input reads as it did. -/
def fnHasRepeatKeyUptoRow : OpenClaim := { program := "ythelcpfcamidiaagreat", sum := "95d3611e9932893c3a0541b2a9367c3c9cebb80abe67f9b07035157e3df96313", func := "loop.example/rotorciphers/laws.FnHasRepeatKey", spec := "fnHasRepeatKey", inPlace := ["internal/bytealg.IndexByteString"], unfollowed := true, recurses := true, apart := false, narrowed := true }
def FnHasRepeatKeyUptoSaid : Prop := fnHasRepeatKeyUptoRow.holds Tryz.pinned (OpenSpec.upto fnHasRepeatKeySpec)

end Rows
end Go.Proofs.YthelcpfcamidiaaGreat
