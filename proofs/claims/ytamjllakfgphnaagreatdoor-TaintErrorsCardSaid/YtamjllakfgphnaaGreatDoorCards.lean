/-
  DERIVED. GIVEN WITH THE SEED: THE CARDS: each row of YtamjllakfgphnaaGreatDoorRows.lean that lists a variable, with what it lists TIED to the program's text (the seventh form; the later family's looks); each row that meets fmt, with fmt's text TOLD by the authors' own Lean function (tested against real Go, not proved from fmt's source: count such statements apart). THE CARD IS WHAT COUNTS. Prove the row's statement (the work); the ties are given (YtamjllakfgphnaaGreatDoorTie.lean); close each card by the builder's one call (the guide's Derived/Test/ToyasCard.lean, 'card_holds'). Laid BY PROGRAM, IN A SANDBOX (cutbox-door.mjs). By AI agents, Wed Nov 11 2026. No macro, syntax, notation, axiom, sorry.
-/
import Derived.Test.YtamjllakfgphnaaGreatDoorRows
import GoSem.ClaimSeven
namespace Go.Proofs.YtamjllakfgphnaaGreatDoor
namespace Rows

/-- THE TIED CARD OF 'replevinlaw54.TaintFiles'. -/
def taintFilesCard : Claim7 := { stood := { row := taintFilesRow, standIns := [], harness := (true, "c655637d5a11be8fa4f45a2b5e82a69f9ec591752a5f3edc81de67e0a29a7541"), looks := false }, kinds := [], alts := [], laidByText := true, laidKinds := [.data], laidTests := true, laidLooks := .later }
def TaintFilesCardSaid : Prop := Claim7.holds Tryz.pinned (.plain (OpenSpec.ofChange taintFilesSpec)) taintFilesCard

/-- THE TIED CARD OF 'replevinlaw54.TaintChains'. -/
def taintChainsCard : Claim7 := { stood := { row := taintChainsRow, standIns := [], harness := (true, "c655637d5a11be8fa4f45a2b5e82a69f9ec591752a5f3edc81de67e0a29a7541"), looks := false }, kinds := [], alts := [], laidByText := true, laidKinds := [.data], laidTests := true, laidLooks := .later }
def TaintChainsCardSaid : Prop := Claim7.holds Tryz.pinned (.plain (OpenSpec.ofChange taintChainsSpec)) taintChainsCard

/-- THE TIED CARD OF 'replevinlaw54.TaintSlices'. -/
def taintSlicesCard : Claim7 := { stood := { row := taintSlicesRow, standIns := [], harness := (true, "c655637d5a11be8fa4f45a2b5e82a69f9ec591752a5f3edc81de67e0a29a7541"), looks := false }, kinds := [], alts := [], laidByText := true, laidKinds := [.data], laidTests := true, laidLooks := .later }
def TaintSlicesCardSaid : Prop := Claim7.holds Tryz.pinned (.plain (OpenSpec.ofChange taintSlicesSpec)) taintSlicesCard

/-- THE TIED CARD OF 'replevinlaw54.TaintAlone'. -/
def taintAloneCard : Claim7 := { stood := { row := taintAloneRow, standIns := [], harness := (true, "c655637d5a11be8fa4f45a2b5e82a69f9ec591752a5f3edc81de67e0a29a7541"), looks := false }, kinds := [], alts := [], laidByText := true, laidKinds := [.data], laidTests := true, laidLooks := .later }
def TaintAloneCardSaid : Prop := Claim7.holds Tryz.pinned (.plain (OpenSpec.ofChange taintAloneSpec)) taintAloneCard

/-- THE TIED CARD OF 'replevinlaw54.TaintErrors'. -/
def taintErrorsCard : Claim7 := { stood := { row := taintErrorsRow, standIns := [], harness := (true, "c655637d5a11be8fa4f45a2b5e82a69f9ec591752a5f3edc81de67e0a29a7541"), looks := false }, kinds := [], alts := [], laidByText := true, laidKinds := [.data, .data, .data, .data], laidTests := true, laidLooks := .later }
def TaintErrorsCardSaid : Prop := Claim7.holds Tryz.pinned (.plain (OpenSpec.ofChange taintErrorsSpec)) taintErrorsCard

/-- THE SECOND FORM's CARD OF 'replevinlaw54.TaintFiles'. -/
def taintFilesUptoCard : Claim7 := { stood := { row := taintFilesUptoRow, standIns := [], harness := (true, "c655637d5a11be8fa4f45a2b5e82a69f9ec591752a5f3edc81de67e0a29a7541"), looks := false }, kinds := [], alts := [], laidByText := true, laidKinds := [.data], laidTests := true, laidLooks := .later }
def TaintFilesUptoCardSaid : Prop := Claim7.holds Tryz.pinned (.plain (OpenSpec.upto taintFilesSpec)) taintFilesUptoCard

/-- THE SECOND FORM's CARD OF 'replevinlaw54.TaintChains'. -/
def taintChainsUptoCard : Claim7 := { stood := { row := taintChainsUptoRow, standIns := [], harness := (true, "c655637d5a11be8fa4f45a2b5e82a69f9ec591752a5f3edc81de67e0a29a7541"), looks := false }, kinds := [], alts := [], laidByText := true, laidKinds := [.data], laidTests := true, laidLooks := .later }
def TaintChainsUptoCardSaid : Prop := Claim7.holds Tryz.pinned (.plain (OpenSpec.upto taintChainsSpec)) taintChainsUptoCard

/-- THE SECOND FORM's CARD OF 'replevinlaw54.TaintSlices'. -/
def taintSlicesUptoCard : Claim7 := { stood := { row := taintSlicesUptoRow, standIns := [], harness := (true, "c655637d5a11be8fa4f45a2b5e82a69f9ec591752a5f3edc81de67e0a29a7541"), looks := false }, kinds := [], alts := [], laidByText := true, laidKinds := [.data], laidTests := true, laidLooks := .later }
def TaintSlicesUptoCardSaid : Prop := Claim7.holds Tryz.pinned (.plain (OpenSpec.upto taintSlicesSpec)) taintSlicesUptoCard

/-- THE SECOND FORM's CARD OF 'replevinlaw54.TaintAlone'. -/
def taintAloneUptoCard : Claim7 := { stood := { row := taintAloneUptoRow, standIns := [], harness := (true, "c655637d5a11be8fa4f45a2b5e82a69f9ec591752a5f3edc81de67e0a29a7541"), looks := false }, kinds := [], alts := [], laidByText := true, laidKinds := [.data], laidTests := true, laidLooks := .later }
def TaintAloneUptoCardSaid : Prop := Claim7.holds Tryz.pinned (.plain (OpenSpec.upto taintAloneSpec)) taintAloneUptoCard

/-- THE SECOND FORM's CARD OF 'replevinlaw54.TaintErrors'. -/
def taintErrorsUptoCard : Claim7 := { stood := { row := taintErrorsUptoRow, standIns := [], harness := (true, "c655637d5a11be8fa4f45a2b5e82a69f9ec591752a5f3edc81de67e0a29a7541"), looks := false }, kinds := [], alts := [], laidByText := true, laidKinds := [.data, .data, .data, .data], laidTests := true, laidLooks := .later }
def TaintErrorsUptoCardSaid : Prop := Claim7.holds Tryz.pinned (.plain (OpenSpec.upto taintErrorsSpec)) taintErrorsUptoCard
end Rows
end Go.Proofs.YtamjllakfgphnaaGreatDoor
