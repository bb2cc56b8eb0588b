/-
  NARROWER THAN 'FOR EVERY INPUT', by the rows' own cells (each row's printed sentence says how): LexerScans: laid · LexerPlaces: laid · LexerWords: laid · LexerBlanks: laid · LexerSame: laid · LexerQuotes: laid · LexerPrints: laid.
  DERIVED. THE GIVEN ROWS OF THIS SEAT. 7 by the template 'for every input the law returns true; each argument reads behind the call as it read before'; 0 by the template 'total and deterministic' (their statements: YtdhfkokinnmfhaaDoorTotals.lean).
  GIVEN WITH THE SEED: the statements are not yours to turn. If you find one false, say at which input.
  Laid BY PROGRAM, IN A SANDBOX (cutbox-rows.mjs): the forced cells as the released guide's own fill.sh prints them over the translation fcb825e4d7b8ec2a… (all of the seat's roots in one cut). By AI agents, Wed Nov 11 2026. No macro, syntax, notation, axiom, sorry.
-/
import Derived.Test.YtdhfkokinnmfhaaDoorChecked
import GoSem.Claim
import GoSem.ClaimJoined
import GoSem.ClaimMapViews
import Derived.JoinedTies
import Derived.KernelRfl
namespace Go.Proofs.YtdhfkokinnmfhaaDoor
/- THE CELL 'sum', in the pinned program and in every row, IS THE sha256 OF THE DUMP (.gsa) THAT YtdhfkokinnmfhaaDoorProg.lean LOADS. Nothing in Lean hashes anything: it is a label: what it is worth is what the hold of that sum in a sandbox is worth. -/
noncomputable def Tryd.pinned : Pinned := { name := "ytdhfkokinnmfhaadoor", sum := "fcb825e4d7b8ec2ab31bdaf198f0b28a70f90d81e03846e0a5a2372411599538", checked := Tryd.checked }
namespace Rows
def none {H : Type} : Left H := { results := [], args := [] }

/- WHAT THE LISTED PACKAGE-LEVEL VARIABLES READ AS WHEN THE CALL BEGINS. Each datum BY PROGRAM (the guide's laid-datum.mjs) off the statement by which the dump's own 'gosem.cut.vars' lays the variable. In a bare row this is a premise. The card (YtdhfkokinnmfhaaDoorCards.lean) ties it to the program's text. -/
def laid_replevin_lexer_escapes {H : Type} : DataW H := .agg [.lit (.int .u8 0), .lit (.int .u8 0), .lit (.int .u8 0), .lit (.int .u8 0), .lit (.int .u8 0), .lit (.int .u8 0), .lit (.int .u8 0), .lit (.int .u8 0), .lit (.int .u8 0), .lit (.int .u8 0), .lit (.int .u8 0), .lit (.int .u8 0), .lit (.int .u8 0), .lit (.int .u8 0), .lit (.int .u8 0), .lit (.int .u8 0), .lit (.int .u8 0), .lit (.int .u8 0), .lit (.int .u8 0), .lit (.int .u8 0), .lit (.int .u8 0), .lit (.int .u8 0), .lit (.int .u8 0), .lit (.int .u8 0), .lit (.int .u8 0), .lit (.int .u8 0), .lit (.int .u8 0), .lit (.int .u8 0), .lit (.int .u8 0), .lit (.int .u8 0), .lit (.int .u8 0), .lit (.int .u8 0), .lit (.int .u8 0), .lit (.int .u8 0), .lit (.int .u8 35), .lit (.int .u8 0), .lit (.int .u8 0), .lit (.int .u8 0), .lit (.int .u8 0), .lit (.int .u8 40), .lit (.int .u8 0), .lit (.int .u8 0), .lit (.int .u8 0), .lit (.int .u8 0), .lit (.int .u8 0), .lit (.int .u8 0), .lit (.int .u8 0), .lit (.int .u8 0), .lit (.int .u8 1), .lit (.int .u8 0), .lit (.int .u8 0), .lit (.int .u8 0), .lit (.int .u8 0), .lit (.int .u8 0), .lit (.int .u8 0), .lit (.int .u8 0), .lit (.int .u8 0), .lit (.int .u8 0), .lit (.int .u8 0), .lit (.int .u8 0), .lit (.int .u8 0), .lit (.int .u8 0), .lit (.int .u8 0), .lit (.int .u8 0), .lit (.int .u8 0), .lit (.int .u8 0), .lit (.int .u8 0), .lit (.int .u8 0), .lit (.int .u8 0), .lit (.int .u8 0), .lit (.int .u8 0), .lit (.int .u8 0), .lit (.int .u8 0), .lit (.int .u8 0), .lit (.int .u8 0), .lit (.int .u8 0), .lit (.int .u8 0), .lit (.int .u8 0), .lit (.int .u8 0), .lit (.int .u8 0), .lit (.int .u8 0), .lit (.int .u8 0), .lit (.int .u8 0), .lit (.int .u8 0), .lit (.int .u8 0), .lit (.int .u8 0), .lit (.int .u8 0), .lit (.int .u8 0), .lit (.int .u8 0), .lit (.int .u8 0), .lit (.int .u8 0), .lit (.int .u8 0), .lit (.int .u8 93), .lit (.int .u8 0), .lit (.int .u8 0), .lit (.int .u8 0), .lit (.int .u8 0), .lit (.int .u8 0), .lit (.int .u8 0), .lit (.int .u8 0), .lit (.int .u8 0), .lit (.int .u8 0), .lit (.int .u8 0), .lit (.int .u8 0), .lit (.int .u8 0), .lit (.int .u8 0), .lit (.int .u8 0), .lit (.int .u8 0), .lit (.int .u8 0), .lit (.int .u8 0), .lit (.int .u8 11), .lit (.int .u8 0), .lit (.int .u8 0), .lit (.int .u8 0), .lit (.int .u8 0), .lit (.int .u8 0), .lit (.int .u8 10), .lit (.int .u8 0), .lit (.int .u8 0), .lit (.int .u8 0), .lit (.int .u8 0), .lit (.int .u8 0), .lit (.int .u8 0), .lit (.int .u8 0), .lit (.int .u8 0), .lit (.int .u8 0), .lit (.int .u8 0), .lit (.int .u8 0)]

/-- 'replevinlaw21.LexerScans': WHATEVER THE INPUT: true; the input reads as it did. -/
def lexerScansSpec : ChangeSpec := { name := "lexerScans", fn := fun _ => fun
  | [d] => { results := [.lit (.bool true)], args := [d] }
  | _ => none }
def lexerScansRow : OpenClaim := { program := "ytdhfkokinnmfhaadoor", sum := "fcb825e4d7b8ec2ab31bdaf198f0b28a70f90d81e03846e0a5a2372411599538", func := "replevin/replevinlaw21.LexerScans", spec := "lexerScans", unfollowed := true, recurses := true, named := ["replevin/lexer.escapes"], apart := false, laid := [("replevin/lexer.escapes", laid_replevin_lexer_escapes)] }
def LexerScansSaid : Prop := lexerScansRow.holds Tryd.pinned (OpenSpec.ofChange lexerScansSpec)

/-- ITS FALSE NEIGHBOUR: 'it returns false'. Refute it at one input. -/
def lexerScansWrong : ChangeSpec := { name := "lexerScans", fn := fun _ => fun
  | [d] => { results := [.lit (.bool false)], args := [d] }
  | _ => none }
def LexerScansWrongFalsely : Prop := lexerScansRow.holds Tryd.pinned (OpenSpec.ofChange lexerScansWrong)

/-- 'replevinlaw21.LexerPlaces': WHATEVER THE INPUT: true; the input reads as it did. -/
def lexerPlacesSpec : ChangeSpec := { name := "lexerPlaces", fn := fun _ => fun
  | [d] => { results := [.lit (.bool true)], args := [d] }
  | _ => none }
def lexerPlacesRow : OpenClaim := { program := "ytdhfkokinnmfhaadoor", sum := "fcb825e4d7b8ec2ab31bdaf198f0b28a70f90d81e03846e0a5a2372411599538", func := "replevin/replevinlaw21.LexerPlaces", spec := "lexerPlaces", unfollowed := true, recurses := true, named := ["replevin/lexer.escapes"], apart := false, laid := [("replevin/lexer.escapes", laid_replevin_lexer_escapes)] }
def LexerPlacesSaid : Prop := lexerPlacesRow.holds Tryd.pinned (OpenSpec.ofChange lexerPlacesSpec)

/-- ITS FALSE NEIGHBOUR: 'it returns false'. Refute it at one input. -/
def lexerPlacesWrong : ChangeSpec := { name := "lexerPlaces", fn := fun _ => fun
  | [d] => { results := [.lit (.bool false)], args := [d] }
  | _ => none }
def LexerPlacesWrongFalsely : Prop := lexerPlacesRow.holds Tryd.pinned (OpenSpec.ofChange lexerPlacesWrong)

/-- 'replevinlaw21.LexerWords': WHATEVER THE INPUT: true; the input reads as it did. -/
def lexerWordsSpec : ChangeSpec := { name := "lexerWords", fn := fun _ => fun
  | [d] => { results := [.lit (.bool true)], args := [d] }
  | _ => none }
def lexerWordsRow : OpenClaim := { program := "ytdhfkokinnmfhaadoor", sum := "fcb825e4d7b8ec2ab31bdaf198f0b28a70f90d81e03846e0a5a2372411599538", func := "replevin/replevinlaw21.LexerWords", spec := "lexerWords", unfollowed := true, recurses := true, named := ["replevin/lexer.escapes"], apart := false, laid := [("replevin/lexer.escapes", laid_replevin_lexer_escapes)] }
def LexerWordsSaid : Prop := lexerWordsRow.holds Tryd.pinned (OpenSpec.ofChange lexerWordsSpec)

/-- ITS FALSE NEIGHBOUR: 'it returns false'. Refute it at one input. -/
def lexerWordsWrong : ChangeSpec := { name := "lexerWords", fn := fun _ => fun
  | [d] => { results := [.lit (.bool false)], args := [d] }
  | _ => none }
def LexerWordsWrongFalsely : Prop := lexerWordsRow.holds Tryd.pinned (OpenSpec.ofChange lexerWordsWrong)

/-- 'replevinlaw21.LexerBlanks': WHATEVER THE INPUT: true; the input reads as it did. -/
def lexerBlanksSpec : ChangeSpec := { name := "lexerBlanks", fn := fun _ => fun
  | [d1, d2] => { results := [.lit (.bool true)], args := [d1, d2] }
  | _ => none }
def lexerBlanksRow : OpenClaim := { program := "ytdhfkokinnmfhaadoor", sum := "fcb825e4d7b8ec2ab31bdaf198f0b28a70f90d81e03846e0a5a2372411599538", func := "replevin/replevinlaw21.LexerBlanks", spec := "lexerBlanks", unfollowed := true, recurses := true, named := ["replevin/lexer.escapes"], apart := false, laid := [("replevin/lexer.escapes", laid_replevin_lexer_escapes)] }
def LexerBlanksSaid : Prop := lexerBlanksRow.holds Tryd.pinned (OpenSpec.ofChange lexerBlanksSpec)

/-- ITS FALSE NEIGHBOUR: 'it returns false'. Refute it at one input. -/
def lexerBlanksWrong : ChangeSpec := { name := "lexerBlanks", fn := fun _ => fun
  | [d1, d2] => { results := [.lit (.bool false)], args := [d1, d2] }
  | _ => none }
def LexerBlanksWrongFalsely : Prop := lexerBlanksRow.holds Tryd.pinned (OpenSpec.ofChange lexerBlanksWrong)

/-- 'replevinlaw21.LexerSame': WHATEVER THE INPUT: true; the input reads as it did. -/
def lexerSameSpec : ChangeSpec := { name := "lexerSame", fn := fun _ => fun
  | [d1, d2] => { results := [.lit (.bool true)], args := [d1, d2] }
  | _ => none }
def lexerSameRow : OpenClaim := { program := "ytdhfkokinnmfhaadoor", sum := "fcb825e4d7b8ec2ab31bdaf198f0b28a70f90d81e03846e0a5a2372411599538", func := "replevin/replevinlaw21.LexerSame", spec := "lexerSame", unfollowed := true, recurses := true, named := ["replevin/lexer.escapes"], apart := false, laid := [("replevin/lexer.escapes", laid_replevin_lexer_escapes)] }
def LexerSameSaid : Prop := lexerSameRow.holds Tryd.pinned (OpenSpec.ofChange lexerSameSpec)

/-- ITS FALSE NEIGHBOUR: 'it returns false'. Refute it at one input. -/
def lexerSameWrong : ChangeSpec := { name := "lexerSame", fn := fun _ => fun
  | [d1, d2] => { results := [.lit (.bool false)], args := [d1, d2] }
  | _ => none }
def LexerSameWrongFalsely : Prop := lexerSameRow.holds Tryd.pinned (OpenSpec.ofChange lexerSameWrong)

/-- 'replevinlaw21.LexerQuotes': WHATEVER THE INPUT: true; the input reads as it did. -/
def lexerQuotesSpec : ChangeSpec := { name := "lexerQuotes", fn := fun _ => fun
  | [d] => { results := [.lit (.bool true)], args := [d] }
  | _ => none }
def lexerQuotesRow : OpenClaim := { program := "ytdhfkokinnmfhaadoor", sum := "fcb825e4d7b8ec2ab31bdaf198f0b28a70f90d81e03846e0a5a2372411599538", func := "replevin/replevinlaw21.LexerQuotes", spec := "lexerQuotes", unfollowed := true, recurses := true, named := ["replevin/lexer.escapes"], apart := false, laid := [("replevin/lexer.escapes", laid_replevin_lexer_escapes)] }
def LexerQuotesSaid : Prop := lexerQuotesRow.holds Tryd.pinned (OpenSpec.ofChange lexerQuotesSpec)

/-- ITS FALSE NEIGHBOUR: 'it returns false'. Refute it at one input. -/
def lexerQuotesWrong : ChangeSpec := { name := "lexerQuotes", fn := fun _ => fun
  | [d] => { results := [.lit (.bool false)], args := [d] }
  | _ => none }
def LexerQuotesWrongFalsely : Prop := lexerQuotesRow.holds Tryd.pinned (OpenSpec.ofChange lexerQuotesWrong)

/-- 'replevinlaw21.LexerPrints': WHATEVER THE INPUT: true; the input reads as it did. -/
def lexerPrintsSpec : ChangeSpec := { name := "lexerPrints", fn := fun _ => fun
  | [d] => { results := [.lit (.bool true)], args := [d] }
  | _ => none }
def lexerPrintsRow : OpenClaim := { program := "ytdhfkokinnmfhaadoor", sum := "fcb825e4d7b8ec2ab31bdaf198f0b28a70f90d81e03846e0a5a2372411599538", func := "replevin/replevinlaw21.LexerPrints", spec := "lexerPrints", inPlace := ["internal/abi.NoEscape", "internal/bytealg.MakeNoZero"], unfollowed := true, recurses := true, named := ["replevin/lexer.escapes"], apart := false, laid := [("replevin/lexer.escapes", laid_replevin_lexer_escapes)] }
def LexerPrintsSaid : Prop := lexerPrintsRow.holds Tryd.pinned (OpenSpec.ofChange lexerPrintsSpec)

/-- ITS FALSE NEIGHBOUR: 'it returns false'. Refute it at one input. -/
def lexerPrintsWrong : ChangeSpec := { name := "lexerPrints", fn := fun _ => fun
  | [d] => { results := [.lit (.bool false)], args := [d] }
  | _ => none }
def LexerPrintsWrongFalsely : Prop := lexerPrintsRow.holds Tryd.pinned (OpenSpec.ofChange lexerPrintsWrong)

/- THE SECOND FORM. 'bulk': how many values and letters a reading holds, each counted each time it is reached (what is shared counts as often as it is met; a slice's spare places count too). A statement '..UptoSaid' is the law's where the arguments, and the package variables that the reading takes, are together of bulk at most 1048576: NARROWER than '..Said'. Prove '..Said' where nothing that the law and all that it calls make is longer than what came in: it says more and counts as full. Else prove '..UptoSaid'. A law counts once. -/
mutual
def uptoBulk {H : Type} : DataW H → Nat
  | .lit (.string bytes) => bytes.length + 1
  | .lit _ => 1
  | .nil => 1
  | .ptr d => uptoBulk d + 1
  | .slice elems spare => uptoBulkAll elems + uptoBulkAll spare + 1
  | .agg parts => uptoBulkAll parts + 1
  | .iface _ d => uptoBulk d + 1
  | .map entries => uptoBulkEntries entries + 1
  | .held _ => 1
def uptoBulkAll {H : Type} : List (DataW H) → Nat
  | [] => 0
  | d :: r => uptoBulk d + uptoBulkAll r
def uptoBulkEntries {H : Type} : List (Lit × DataW H) → Nat
  | [] => 0
  | x :: r => uptoBulkEntry x + uptoBulkEntries r
def uptoBulkEntry {H : Type} : Lit × DataW H → Nat
  | (.string bytes, d) => bytes.length + uptoBulk d + 1
  | (_, d) => uptoBulk d + 1
 end
def uptoSmall : (H : Type) → List (DataW H) → Bool := fun _ ds => decide (uptoBulkAll ds ≤ 1048576)
def OpenSpec.upto (s : _root_.Go.ChangeSpec) : _root_.Go.OpenSpec := { _root_.Go.OpenSpec.ofChange s with cond := some uptoSmall }

/-- 'replevinlaw21.LexerScans', WHERE WHAT IT READS IS OF BULK AT MOST 1048576: true; the input reads as it did. -/
def lexerScansUptoRow : OpenClaim := { program := "ytdhfkokinnmfhaadoor", sum := "fcb825e4d7b8ec2ab31bdaf198f0b28a70f90d81e03846e0a5a2372411599538", func := "replevin/replevinlaw21.LexerScans", spec := "lexerScans", unfollowed := true, recurses := true, named := ["replevin/lexer.escapes"], apart := false, laid := [("replevin/lexer.escapes", laid_replevin_lexer_escapes)], narrowed := true }
def LexerScansUptoSaid : Prop := lexerScansUptoRow.holds Tryd.pinned (OpenSpec.upto lexerScansSpec)

/-- 'replevinlaw21.LexerPlaces', WHERE WHAT IT READS IS OF BULK AT MOST 1048576: true; the input reads as it did. -/
def lexerPlacesUptoRow : OpenClaim := { program := "ytdhfkokinnmfhaadoor", sum := "fcb825e4d7b8ec2ab31bdaf198f0b28a70f90d81e03846e0a5a2372411599538", func := "replevin/replevinlaw21.LexerPlaces", spec := "lexerPlaces", unfollowed := true, recurses := true, named := ["replevin/lexer.escapes"], apart := false, laid := [("replevin/lexer.escapes", laid_replevin_lexer_escapes)], narrowed := true }
def LexerPlacesUptoSaid : Prop := lexerPlacesUptoRow.holds Tryd.pinned (OpenSpec.upto lexerPlacesSpec)

/-- 'replevinlaw21.LexerWords', WHERE WHAT IT READS IS OF BULK AT MOST 1048576: true; the input reads as it did. -/
def lexerWordsUptoRow : OpenClaim := { program := "ytdhfkokinnmfhaadoor", sum := "fcb825e4d7b8ec2ab31bdaf198f0b28a70f90d81e03846e0a5a2372411599538", func := "replevin/replevinlaw21.LexerWords", spec := "lexerWords", unfollowed := true, recurses := true, named := ["replevin/lexer.escapes"], apart := false, laid := [("replevin/lexer.escapes", laid_replevin_lexer_escapes)], narrowed := true }
def LexerWordsUptoSaid : Prop := lexerWordsUptoRow.holds Tryd.pinned (OpenSpec.upto lexerWordsSpec)

/-- 'replevinlaw21.LexerBlanks', WHERE WHAT IT READS IS OF BULK AT MOST 1048576: true; the input reads as it did. -/
def lexerBlanksUptoRow : OpenClaim := { program := "ytdhfkokinnmfhaadoor", sum := "fcb825e4d7b8ec2ab31bdaf198f0b28a70f90d81e03846e0a5a2372411599538", func := "replevin/replevinlaw21.LexerBlanks", spec := "lexerBlanks", unfollowed := true, recurses := true, named := ["replevin/lexer.escapes"], apart := false, laid := [("replevin/lexer.escapes", laid_replevin_lexer_escapes)], narrowed := true }
def LexerBlanksUptoSaid : Prop := lexerBlanksUptoRow.holds Tryd.pinned (OpenSpec.upto lexerBlanksSpec)

/-- 'replevinlaw21.LexerSame', WHERE WHAT IT READS IS OF BULK AT MOST 1048576: true; the input reads as it did. -/
def lexerSameUptoRow : OpenClaim := { program := "ytdhfkokinnmfhaadoor", sum := "fcb825e4d7b8ec2ab31bdaf198f0b28a70f90d81e03846e0a5a2372411599538", func := "replevin/replevinlaw21.LexerSame", spec := "lexerSame", unfollowed := true, recurses := true, named := ["replevin/lexer.escapes"], apart := false, laid := [("replevin/lexer.escapes", laid_replevin_lexer_escapes)], narrowed := true }
def LexerSameUptoSaid : Prop := lexerSameUptoRow.holds Tryd.pinned (OpenSpec.upto lexerSameSpec)

/-- 'replevinlaw21.LexerQuotes', WHERE WHAT IT READS IS OF BULK AT MOST 1048576: true; the input reads as it did. -/
def lexerQuotesUptoRow : OpenClaim := { program := "ytdhfkokinnmfhaadoor", sum := "fcb825e4d7b8ec2ab31bdaf198f0b28a70f90d81e03846e0a5a2372411599538", func := "replevin/replevinlaw21.LexerQuotes", spec := "lexerQuotes", unfollowed := true, recurses := true, named := ["replevin/lexer.escapes"], apart := false, laid := [("replevin/lexer.escapes", laid_replevin_lexer_escapes)], narrowed := true }
def LexerQuotesUptoSaid : Prop := lexerQuotesUptoRow.holds Tryd.pinned (OpenSpec.upto lexerQuotesSpec)

/-- 'replevinlaw21.LexerPrints', WHERE WHAT IT READS IS OF BULK AT MOST 1048576: true; the input reads as it did. -/
def lexerPrintsUptoRow : OpenClaim := { program := "ytdhfkokinnmfhaadoor", sum := "fcb825e4d7b8ec2ab31bdaf198f0b28a70f90d81e03846e0a5a2372411599538", func := "replevin/replevinlaw21.LexerPrints", spec := "lexerPrints", inPlace := ["internal/abi.NoEscape", "internal/bytealg.MakeNoZero"], unfollowed := true, recurses := true, named := ["replevin/lexer.escapes"], apart := false, laid := [("replevin/lexer.escapes", laid_replevin_lexer_escapes)], narrowed := true }
def LexerPrintsUptoSaid : Prop := lexerPrintsUptoRow.holds Tryd.pinned (OpenSpec.upto lexerPrintsSpec)

end Rows
end Go.Proofs.YtdhfkokinnmfhaaDoor
