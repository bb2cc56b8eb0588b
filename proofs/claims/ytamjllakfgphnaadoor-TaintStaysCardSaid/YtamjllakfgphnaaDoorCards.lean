/-
  DERIVED. GIVEN WITH THE SEED: THE CARDS: each row of YtamjllakfgphnaaDoorRows.lean that lists a variable, with what it lists TIED to the program's text (the seventh form; the later family's looks); each row that meets fmt, with fmt's text TOLD by the authors' own Lean function (tested against real Go, not proved from fmt's source: count such statements apart). THE CARD IS WHAT COUNTS. Prove the row's statement (the work); the ties are given (YtamjllakfgphnaaDoorTie.lean); close each card by the builder's one call (the guide's Derived/Test/ToyasCard.lean, 'card_holds'). Laid BY PROGRAM, IN A SANDBOX (cutbox-door.mjs). By AI agents, Wed Nov 11 2026. No macro, syntax, notation, axiom, sorry.
-/
import Derived.Test.YtamjllakfgphnaaDoorRows
import GoSem.ClaimSeven
namespace Go.Proofs.YtamjllakfgphnaaDoor
namespace Rows

/-- THE TIED CARD OF 'replevinlaw54.TaintOrigins'. -/
def taintOriginsCard : Claim7 := { stood := { row := taintOriginsRow, standIns := [], harness := (true, "1309664a9ea8a73a3c84de5ce23dd50b54a2e43d8d8955341a8f4dcad5108cba"), looks := false }, kinds := [], alts := [], laidByText := true, laidKinds := [.data], laidTests := true, laidLooks := .later }
def TaintOriginsCardSaid : Prop := Claim7.holds Tryd.pinned (.plain (OpenSpec.ofChange taintOriginsSpec)) taintOriginsCard

/-- THE TIED CARD OF 'replevinlaw54.TaintStays'. -/
def taintStaysCard : Claim7 := { stood := { row := taintStaysRow, standIns := [], harness := (true, "1309664a9ea8a73a3c84de5ce23dd50b54a2e43d8d8955341a8f4dcad5108cba"), looks := false }, kinds := [], alts := [], laidByText := true, laidKinds := [.data], laidTests := true, laidLooks := .later }
def TaintStaysCardSaid : Prop := Claim7.holds Tryd.pinned (.plain (OpenSpec.ofChange taintStaysSpec)) taintStaysCard

/-- THE SECOND FORM's CARD OF 'replevinlaw54.TaintOrigins'. -/
def taintOriginsUptoCard : Claim7 := { stood := { row := taintOriginsUptoRow, standIns := [], harness := (true, "1309664a9ea8a73a3c84de5ce23dd50b54a2e43d8d8955341a8f4dcad5108cba"), looks := false }, kinds := [], alts := [], laidByText := true, laidKinds := [.data], laidTests := true, laidLooks := .later }
def TaintOriginsUptoCardSaid : Prop := Claim7.holds Tryd.pinned (.plain (OpenSpec.upto taintOriginsSpec)) taintOriginsUptoCard

/-- THE SECOND FORM's CARD OF 'replevinlaw54.TaintStays'. -/
def taintStaysUptoCard : Claim7 := { stood := { row := taintStaysUptoRow, standIns := [], harness := (true, "1309664a9ea8a73a3c84de5ce23dd50b54a2e43d8d8955341a8f4dcad5108cba"), looks := false }, kinds := [], alts := [], laidByText := true, laidKinds := [.data], laidTests := true, laidLooks := .later }
def TaintStaysUptoCardSaid : Prop := Claim7.holds Tryd.pinned (.plain (OpenSpec.upto taintStaysSpec)) taintStaysUptoCard
end Rows
end Go.Proofs.YtamjllakfgphnaaDoor
