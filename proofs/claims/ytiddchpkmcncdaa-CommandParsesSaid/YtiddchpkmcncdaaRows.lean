/-
  No cell of these rows narrows 'for every input' (looked for: loops, veiled, ifaces, maps, wideKeys, modest, calm, conditions, laid).
  DERIVED. THE GIVEN ROWS OF THIS SEAT. 10 by the template 'for every input the law returns true; each argument reads behind the call as it read before'; 0 by the template 'total and deterministic' (their statements: YtiddchpkmcncdaaTotals.lean).
  GIVEN WITH THE SEED: the statements are not yours to turn. If you find one false, say at which input.
  Laid BY PROGRAM, IN A SANDBOX (cutbox-rows.mjs): the forced cells as the released guide's own fill.sh prints them over the translation a98b34d0cc31a7ee… (all of the seat's roots in one cut). By AI agents, Wed Nov 11 2026. No macro, syntax, notation, axiom, sorry.
-/
import Derived.Test.YtiddchpkmcncdaaChecked
import GoSem.Claim
import GoSem.ClaimJoined
import GoSem.ClaimMapViews
import Derived.JoinedTies
import Derived.KernelRfl
namespace Go.Proofs.Ytiddchpkmcncdaa
/- THE CELL 'sum', in the pinned program and in every row, IS THE sha256 OF THE DUMP (.gsa) THAT YtiddchpkmcncdaaProg.lean LOADS. Nothing in Lean hashes anything: it is a label: what it is worth is what the hold of that sum in a sandbox is worth. -/
noncomputable def Try.pinned : Pinned := { name := "ytiddchpkmcncdaa", sum := "a98b34d0cc31a7ee1974818e105ba2252fbca67af48f65e8dc02fc717d696679", checked := Try.checked }
namespace Rows
def none {H : Type} : Left H := { results := [], args := [] }

/-- 'replevinlaw41.CommandParses': WHATEVER THE INPUT: true; the input reads as it did. -/
def commandParsesSpec : ChangeSpec := { name := "commandParses", fn := fun _ => fun
  | [d] => { results := [.lit (.bool true)], args := [d] }
  | _ => none }
def commandParsesRow : OpenClaim := { program := "ytiddchpkmcncdaa", sum := "a98b34d0cc31a7ee1974818e105ba2252fbca67af48f65e8dc02fc717d696679", func := "replevin/replevinlaw41.CommandParses", spec := "commandParses", inPlace := ["internal/bytealg.IndexByteString", "internal/bytealg.IndexString"], named := ["internal/bytealg.MaxLen"], apart := false }
def CommandParsesSaid : Prop := commandParsesRow.holds Try.pinned (OpenSpec.ofChange commandParsesSpec)

/-- ITS FALSE NEIGHBOUR: 'it returns false'. Refute it at one input. -/
def commandParsesWrong : ChangeSpec := { name := "commandParses", fn := fun _ => fun
  | [d] => { results := [.lit (.bool false)], args := [d] }
  | _ => none }
def CommandParsesWrongFalsely : Prop := commandParsesRow.holds Try.pinned (OpenSpec.ofChange commandParsesWrong)

/-- 'replevinlaw41.CommandVariables': WHATEVER THE INPUT: true; the input reads as it did. -/
def commandVariablesSpec : ChangeSpec := { name := "commandVariables", fn := fun _ => fun
  | [d] => { results := [.lit (.bool true)], args := [d] }
  | _ => none }
def commandVariablesRow : OpenClaim := { program := "ytiddchpkmcncdaa", sum := "a98b34d0cc31a7ee1974818e105ba2252fbca67af48f65e8dc02fc717d696679", func := "replevin/replevinlaw41.CommandVariables", spec := "commandVariables", inPlace := ["internal/bytealg.IndexByteString", "internal/bytealg.IndexString"], named := ["internal/bytealg.MaxLen"], apart := false }
def CommandVariablesSaid : Prop := commandVariablesRow.holds Try.pinned (OpenSpec.ofChange commandVariablesSpec)

/-- ITS FALSE NEIGHBOUR: 'it returns false'. Refute it at one input. -/
def commandVariablesWrong : ChangeSpec := { name := "commandVariables", fn := fun _ => fun
  | [d] => { results := [.lit (.bool false)], args := [d] }
  | _ => none }
def CommandVariablesWrongFalsely : Prop := commandVariablesRow.holds Try.pinned (OpenSpec.ofChange commandVariablesWrong)

/-- 'replevinlaw41.CommandEquals': WHATEVER THE INPUT: true; the input reads as it did. -/
def commandEqualsSpec : ChangeSpec := { name := "commandEquals", fn := fun _ => fun
  | [d1, d2] => { results := [.lit (.bool true)], args := [d1, d2] }
  | _ => none }
def commandEqualsRow : OpenClaim := { program := "ytiddchpkmcncdaa", sum := "a98b34d0cc31a7ee1974818e105ba2252fbca67af48f65e8dc02fc717d696679", func := "replevin/replevinlaw41.CommandEquals", spec := "commandEquals", inPlace := ["internal/bytealg.IndexByteString", "internal/bytealg.IndexString"], unfollowed := true, recurses := true, named := ["internal/bytealg.MaxLen"], apart := false }
def CommandEqualsSaid : Prop := commandEqualsRow.holds Try.pinned (OpenSpec.ofChange commandEqualsSpec)

/-- ITS FALSE NEIGHBOUR: 'it returns false'. Refute it at one input. -/
def commandEqualsWrong : ChangeSpec := { name := "commandEquals", fn := fun _ => fun
  | [d1, d2] => { results := [.lit (.bool false)], args := [d1, d2] }
  | _ => none }
def CommandEqualsWrongFalsely : Prop := commandEqualsRow.holds Try.pinned (OpenSpec.ofChange commandEqualsWrong)

/-- 'replevinlaw41.CommandFields': WHATEVER THE INPUT: true; the input reads as it did. -/
def commandFieldsSpec : ChangeSpec := { name := "commandFields", fn := fun _ => fun
  | [d] => { results := [.lit (.bool true)], args := [d] }
  | _ => none }
def commandFieldsRow : OpenClaim := { program := "ytiddchpkmcncdaa", sum := "a98b34d0cc31a7ee1974818e105ba2252fbca67af48f65e8dc02fc717d696679", func := "replevin/replevinlaw41.CommandFields", spec := "commandFields", inPlace := ["internal/bytealg.IndexByteString", "internal/bytealg.IndexString"], unfollowed := true, recurses := true, named := ["internal/bytealg.MaxLen"], apart := false }
def CommandFieldsSaid : Prop := commandFieldsRow.holds Try.pinned (OpenSpec.ofChange commandFieldsSpec)

/-- ITS FALSE NEIGHBOUR: 'it returns false'. Refute it at one input. -/
def commandFieldsWrong : ChangeSpec := { name := "commandFields", fn := fun _ => fun
  | [d] => { results := [.lit (.bool false)], args := [d] }
  | _ => none }
def CommandFieldsWrongFalsely : Prop := commandFieldsRow.holds Try.pinned (OpenSpec.ofChange commandFieldsWrong)

/-- 'replevinlaw41.CommandQuotes': WHATEVER THE INPUT: true; the input reads as it did. -/
def commandQuotesSpec : ChangeSpec := { name := "commandQuotes", fn := fun _ => fun
  | [d] => { results := [.lit (.bool true)], args := [d] }
  | _ => none }
def commandQuotesRow : OpenClaim := { program := "ytiddchpkmcncdaa", sum := "a98b34d0cc31a7ee1974818e105ba2252fbca67af48f65e8dc02fc717d696679", func := "replevin/replevinlaw41.CommandQuotes", spec := "commandQuotes", inPlace := ["internal/bytealg.IndexByteString", "internal/bytealg.IndexString"], unfollowed := true, recurses := true, named := ["internal/bytealg.MaxLen"], apart := false }
def CommandQuotesSaid : Prop := commandQuotesRow.holds Try.pinned (OpenSpec.ofChange commandQuotesSpec)

/-- ITS FALSE NEIGHBOUR: 'it returns false'. Refute it at one input. -/
def commandQuotesWrong : ChangeSpec := { name := "commandQuotes", fn := fun _ => fun
  | [d] => { results := [.lit (.bool false)], args := [d] }
  | _ => none }
def CommandQuotesWrongFalsely : Prop := commandQuotesRow.holds Try.pinned (OpenSpec.ofChange commandQuotesWrong)

/-- 'replevinlaw41.CommandExpands': WHATEVER THE INPUT: true; the input reads as it did. -/
def commandExpandsSpec : ChangeSpec := { name := "commandExpands", fn := fun _ => fun
  | [d1, d2] => { results := [.lit (.bool true)], args := [d1, d2] }
  | _ => none }
def commandExpandsRow : OpenClaim := { program := "ytiddchpkmcncdaa", sum := "a98b34d0cc31a7ee1974818e105ba2252fbca67af48f65e8dc02fc717d696679", func := "replevin/replevinlaw41.CommandExpands", spec := "commandExpands", inPlace := ["internal/bytealg.IndexByteString", "internal/bytealg.IndexString"], unfollowed := true, recurses := true, named := ["internal/bytealg.MaxLen"], apart := false }
def CommandExpandsSaid : Prop := commandExpandsRow.holds Try.pinned (OpenSpec.ofChange commandExpandsSpec)

/-- ITS FALSE NEIGHBOUR: 'it returns false'. Refute it at one input. -/
def commandExpandsWrong : ChangeSpec := { name := "commandExpands", fn := fun _ => fun
  | [d1, d2] => { results := [.lit (.bool false)], args := [d1, d2] }
  | _ => none }
def CommandExpandsWrongFalsely : Prop := commandExpandsRow.holds Try.pinned (OpenSpec.ofChange commandExpandsWrong)

/-- 'replevinlaw41.CommandPrints': WHATEVER THE INPUT: true; the input reads as it did. -/
def commandPrintsSpec : ChangeSpec := { name := "commandPrints", fn := fun _ => fun
  | [d] => { results := [.lit (.bool true)], args := [d] }
  | _ => none }
def commandPrintsRow : OpenClaim := { program := "ytiddchpkmcncdaa", sum := "a98b34d0cc31a7ee1974818e105ba2252fbca67af48f65e8dc02fc717d696679", func := "replevin/replevinlaw41.CommandPrints", spec := "commandPrints", inPlace := ["internal/bytealg.IndexByteString", "internal/abi.NoEscape", "internal/bytealg.MakeNoZero", "internal/bytealg.IndexString"], named := ["internal/bytealg.MaxLen"], apart := false }
def CommandPrintsSaid : Prop := commandPrintsRow.holds Try.pinned (OpenSpec.ofChange commandPrintsSpec)

/-- ITS FALSE NEIGHBOUR: 'it returns false'. Refute it at one input. -/
def commandPrintsWrong : ChangeSpec := { name := "commandPrints", fn := fun _ => fun
  | [d] => { results := [.lit (.bool false)], args := [d] }
  | _ => none }
def CommandPrintsWrongFalsely : Prop := commandPrintsRow.holds Try.pinned (OpenSpec.ofChange commandPrintsWrong)

/-- 'replevinlaw41.CommandRoundTrip': WHATEVER THE INPUT: true; the input reads as it did. -/
def commandRoundTripSpec : ChangeSpec := { name := "commandRoundTrip", fn := fun _ => fun
  | [d] => { results := [.lit (.bool true)], args := [d] }
  | _ => none }
def commandRoundTripRow : OpenClaim := { program := "ytiddchpkmcncdaa", sum := "a98b34d0cc31a7ee1974818e105ba2252fbca67af48f65e8dc02fc717d696679", func := "replevin/replevinlaw41.CommandRoundTrip", spec := "commandRoundTrip", inPlace := ["internal/bytealg.IndexByteString", "internal/abi.NoEscape", "internal/bytealg.MakeNoZero", "internal/bytealg.IndexString"], named := ["internal/bytealg.MaxLen"], apart := false }
def CommandRoundTripSaid : Prop := commandRoundTripRow.holds Try.pinned (OpenSpec.ofChange commandRoundTripSpec)

/-- ITS FALSE NEIGHBOUR: 'it returns false'. Refute it at one input. -/
def commandRoundTripWrong : ChangeSpec := { name := "commandRoundTrip", fn := fun _ => fun
  | [d] => { results := [.lit (.bool false)], args := [d] }
  | _ => none }
def CommandRoundTripWrongFalsely : Prop := commandRoundTripRow.holds Try.pinned (OpenSpec.ofChange commandRoundTripWrong)

/-- 'replevinlaw41.CommandBlanks': WHATEVER THE INPUT: true; the input reads as it did. -/
def commandBlanksSpec : ChangeSpec := { name := "commandBlanks", fn := fun _ => fun
  | [d1, d2] => { results := [.lit (.bool true)], args := [d1, d2] }
  | _ => none }
def commandBlanksRow : OpenClaim := { program := "ytiddchpkmcncdaa", sum := "a98b34d0cc31a7ee1974818e105ba2252fbca67af48f65e8dc02fc717d696679", func := "replevin/replevinlaw41.CommandBlanks", spec := "commandBlanks", inPlace := ["internal/bytealg.IndexByteString", "internal/abi.NoEscape", "internal/bytealg.MakeNoZero", "internal/bytealg.IndexString"], named := ["internal/bytealg.MaxLen"], apart := false }
def CommandBlanksSaid : Prop := commandBlanksRow.holds Try.pinned (OpenSpec.ofChange commandBlanksSpec)

/-- ITS FALSE NEIGHBOUR: 'it returns false'. Refute it at one input. -/
def commandBlanksWrong : ChangeSpec := { name := "commandBlanks", fn := fun _ => fun
  | [d1, d2] => { results := [.lit (.bool false)], args := [d1, d2] }
  | _ => none }
def CommandBlanksWrongFalsely : Prop := commandBlanksRow.holds Try.pinned (OpenSpec.ofChange commandBlanksWrong)

/-- 'replevinlaw41.CommandCanonical': WHATEVER THE INPUT: true; the input reads as it did. -/
def commandCanonicalSpec : ChangeSpec := { name := "commandCanonical", fn := fun _ => fun
  | [d] => { results := [.lit (.bool true)], args := [d] }
  | _ => none }
def commandCanonicalRow : OpenClaim := { program := "ytiddchpkmcncdaa", sum := "a98b34d0cc31a7ee1974818e105ba2252fbca67af48f65e8dc02fc717d696679", func := "replevin/replevinlaw41.CommandCanonical", spec := "commandCanonical", inPlace := ["internal/bytealg.IndexByteString", "internal/bytealg.IndexString", "internal/abi.NoEscape", "internal/bytealg.MakeNoZero"], unfollowed := true, recurses := true, named := ["internal/bytealg.MaxLen"], apart := false }
def CommandCanonicalSaid : Prop := commandCanonicalRow.holds Try.pinned (OpenSpec.ofChange commandCanonicalSpec)

/-- ITS FALSE NEIGHBOUR: 'it returns false'. Refute it at one input. -/
def commandCanonicalWrong : ChangeSpec := { name := "commandCanonical", fn := fun _ => fun
  | [d] => { results := [.lit (.bool false)], args := [d] }
  | _ => none }
def CommandCanonicalWrongFalsely : Prop := commandCanonicalRow.holds Try.pinned (OpenSpec.ofChange commandCanonicalWrong)

/- THE SECOND FORM. 'bulk': how many values and letters a reading holds, each counted each time it is reached (what is shared counts as often as it is met; a slice's spare places count too). A statement '..UptoSaid' is the law's where the arguments, and the package variables that the reading takes, are together of bulk at most 1048576: NARROWER than '..Said'. Prove '..Said' where nothing that the law and all that it calls make is longer than what came in: it says more and counts as full. Else prove '..UptoSaid'. A law counts once. -/
mutual
def uptoBulk {H : Type} : DataW H → Nat
  | .lit (.string bytes) => bytes.length + 1
  | .lit _ => 1
  | .nil => 1
  | .ptr d => uptoBulk d + 1
  | .slice elems spare => uptoBulkAll elems + uptoBulkAll spare + 1
  | .agg parts => uptoBulkAll parts + 1
  | .iface _ d => uptoBulk d + 1
  | .map entries => uptoBulkEntries entries + 1
  | .held _ => 1
def uptoBulkAll {H : Type} : List (DataW H) → Nat
  | [] => 0
  | d :: r => uptoBulk d + uptoBulkAll r
def uptoBulkEntries {H : Type} : List (Lit × DataW H) → Nat
  | [] => 0
  | x :: r => uptoBulkEntry x + uptoBulkEntries r
def uptoBulkEntry {H : Type} : Lit × DataW H → Nat
  | (.string bytes, d) => bytes.length + uptoBulk d + 1
  | (_, d) => uptoBulk d + 1
 end
def uptoSmall : (H : Type) → List (DataW H) → Bool := fun _ ds => decide (uptoBulkAll ds ≤ 1048576)
def OpenSpec.upto (s : _root_.Go.ChangeSpec) : _root_.Go.OpenSpec := { _root_.Go.OpenSpec.ofChange s with cond := some uptoSmall }

/-- 'replevinlaw41.CommandParses', WHERE WHAT IT READS IS OF BULK AT MOST 1048576: true; the input reads as it did. -/
def commandParsesUptoRow : OpenClaim := { program := "ytiddchpkmcncdaa", sum := "a98b34d0cc31a7ee1974818e105ba2252fbca67af48f65e8dc02fc717d696679", func := "replevin/replevinlaw41.CommandParses", spec := "commandParses", inPlace := ["internal/bytealg.IndexByteString", "internal/bytealg.IndexString"], named := ["internal/bytealg.MaxLen"], apart := false, narrowed := true }
def CommandParsesUptoSaid : Prop := commandParsesUptoRow.holds Try.pinned (OpenSpec.upto commandParsesSpec)

/-- 'replevinlaw41.CommandVariables', WHERE WHAT IT READS IS OF BULK AT MOST 1048576: true; the input reads as it did. -/
def commandVariablesUptoRow : OpenClaim := { program := "ytiddchpkmcncdaa", sum := "a98b34d0cc31a7ee1974818e105ba2252fbca67af48f65e8dc02fc717d696679", func := "replevin/replevinlaw41.CommandVariables", spec := "commandVariables", inPlace := ["internal/bytealg.IndexByteString", "internal/bytealg.IndexString"], named := ["internal/bytealg.MaxLen"], apart := false, narrowed := true }
def CommandVariablesUptoSaid : Prop := commandVariablesUptoRow.holds Try.pinned (OpenSpec.upto commandVariablesSpec)

/-- 'replevinlaw41.CommandEquals', WHERE WHAT IT READS IS OF BULK AT MOST 1048576: true; the input reads as it did. -/
def commandEqualsUptoRow : OpenClaim := { program := "ytiddchpkmcncdaa", sum := "a98b34d0cc31a7ee1974818e105ba2252fbca67af48f65e8dc02fc717d696679", func := "replevin/replevinlaw41.CommandEquals", spec := "commandEquals", inPlace := ["internal/bytealg.IndexByteString", "internal/bytealg.IndexString"], unfollowed := true, recurses := true, named := ["internal/bytealg.MaxLen"], apart := false, narrowed := true }
def CommandEqualsUptoSaid : Prop := commandEqualsUptoRow.holds Try.pinned (OpenSpec.upto commandEqualsSpec)

/-- 'replevinlaw41.CommandFields', WHERE WHAT IT READS IS OF BULK AT MOST 1048576: true; the input reads as it did. -/
def commandFieldsUptoRow : OpenClaim := { program := "ytiddchpkmcncdaa", sum := "a98b34d0cc31a7ee1974818e105ba2252fbca67af48f65e8dc02fc717d696679", func := "replevin/replevinlaw41.CommandFields", spec := "commandFields", inPlace := ["internal/bytealg.IndexByteString", "internal/bytealg.IndexString"], unfollowed := true, recurses := true, named := ["internal/bytealg.MaxLen"], apart := false, narrowed := true }
def CommandFieldsUptoSaid : Prop := commandFieldsUptoRow.holds Try.pinned (OpenSpec.upto commandFieldsSpec)

/-- 'replevinlaw41.CommandQuotes', WHERE WHAT IT READS IS OF BULK AT MOST 1048576: true; the input reads as it did. -/
def commandQuotesUptoRow : OpenClaim := { program := "ytiddchpkmcncdaa", sum := "a98b34d0cc31a7ee1974818e105ba2252fbca67af48f65e8dc02fc717d696679", func := "replevin/replevinlaw41.CommandQuotes", spec := "commandQuotes", inPlace := ["internal/bytealg.IndexByteString", "internal/bytealg.IndexString"], unfollowed := true, recurses := true, named := ["internal/bytealg.MaxLen"], apart := false, narrowed := true }
def CommandQuotesUptoSaid : Prop := commandQuotesUptoRow.holds Try.pinned (OpenSpec.upto commandQuotesSpec)

/-- 'replevinlaw41.CommandExpands', WHERE WHAT IT READS IS OF BULK AT MOST 1048576: true; the input reads as it did. -/
def commandExpandsUptoRow : OpenClaim := { program := "ytiddchpkmcncdaa", sum := "a98b34d0cc31a7ee1974818e105ba2252fbca67af48f65e8dc02fc717d696679", func := "replevin/replevinlaw41.CommandExpands", spec := "commandExpands", inPlace := ["internal/bytealg.IndexByteString", "internal/bytealg.IndexString"], unfollowed := true, recurses := true, named := ["internal/bytealg.MaxLen"], apart := false, narrowed := true }
def CommandExpandsUptoSaid : Prop := commandExpandsUptoRow.holds Try.pinned (OpenSpec.upto commandExpandsSpec)

/-- 'replevinlaw41.CommandPrints', WHERE WHAT IT READS IS OF BULK AT MOST 1048576: true; the input reads as it did. -/
def commandPrintsUptoRow : OpenClaim := { program := "ytiddchpkmcncdaa", sum := "a98b34d0cc31a7ee1974818e105ba2252fbca67af48f65e8dc02fc717d696679", func := "replevin/replevinlaw41.CommandPrints", spec := "commandPrints", inPlace := ["internal/bytealg.IndexByteString", "internal/abi.NoEscape", "internal/bytealg.MakeNoZero", "internal/bytealg.IndexString"], named := ["internal/bytealg.MaxLen"], apart := false, narrowed := true }
def CommandPrintsUptoSaid : Prop := commandPrintsUptoRow.holds Try.pinned (OpenSpec.upto commandPrintsSpec)

/-- 'replevinlaw41.CommandRoundTrip', WHERE WHAT IT READS IS OF BULK AT MOST 1048576: true; the input reads as it did. -/
def commandRoundTripUptoRow : OpenClaim := { program := "ytiddchpkmcncdaa", sum := "a98b34d0cc31a7ee1974818e105ba2252fbca67af48f65e8dc02fc717d696679", func := "replevin/replevinlaw41.CommandRoundTrip", spec := "commandRoundTrip", inPlace := ["internal/bytealg.IndexByteString", "internal/abi.NoEscape", "internal/bytealg.MakeNoZero", "internal/bytealg.IndexString"], named := ["internal/bytealg.MaxLen"], apart := false, narrowed := true }
def CommandRoundTripUptoSaid : Prop := commandRoundTripUptoRow.holds Try.pinned (OpenSpec.upto commandRoundTripSpec)

/-- 'replevinlaw41.CommandBlanks', WHERE WHAT IT READS IS OF BULK AT MOST 1048576: true; the input reads as it did. -/
def commandBlanksUptoRow : OpenClaim := { program := "ytiddchpkmcncdaa", sum := "a98b34d0cc31a7ee1974818e105ba2252fbca67af48f65e8dc02fc717d696679", func := "replevin/replevinlaw41.CommandBlanks", spec := "commandBlanks", inPlace := ["internal/bytealg.IndexByteString", "internal/abi.NoEscape", "internal/bytealg.MakeNoZero", "internal/bytealg.IndexString"], named := ["internal/bytealg.MaxLen"], apart := false, narrowed := true }
def CommandBlanksUptoSaid : Prop := commandBlanksUptoRow.holds Try.pinned (OpenSpec.upto commandBlanksSpec)

/-- 'replevinlaw41.CommandCanonical', WHERE WHAT IT READS IS OF BULK AT MOST 1048576: true; the input reads as it did. -/
def commandCanonicalUptoRow : OpenClaim := { program := "ytiddchpkmcncdaa", sum := "a98b34d0cc31a7ee1974818e105ba2252fbca67af48f65e8dc02fc717d696679", func := "replevin/replevinlaw41.CommandCanonical", spec := "commandCanonical", inPlace := ["internal/bytealg.IndexByteString", "internal/bytealg.IndexString", "internal/abi.NoEscape", "internal/bytealg.MakeNoZero"], unfollowed := true, recurses := true, named := ["internal/bytealg.MaxLen"], apart := false, narrowed := true }
def CommandCanonicalUptoSaid : Prop := commandCanonicalUptoRow.holds Try.pinned (OpenSpec.upto commandCanonicalSpec)

end Rows
end Go.Proofs.Ytiddchpkmcncdaa
