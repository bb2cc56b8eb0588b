/-
  DERIVED. GIVEN WITH THE SEED: THE CARDS: each row of YtobkmkplhbaepaaGreatDoorRows.lean that lists a variable, with what it lists TIED to the program's text (the seventh form; the later family's looks); each row that meets fmt, with fmt's text TOLD by the authors' own Lean function (tested against real Go, not proved from fmt's source: count such statements apart). THE CARD IS WHAT COUNTS. Prove the row's statement (the work); the ties are given (YtobkmkplhbaepaaGreatDoorTie.lean); close each card by the builder's one call (the guide's Derived/Test/ToyasCard.lean, 'card_holds'). Laid BY PROGRAM, IN A SANDBOX (cutbox-door.mjs). By AI agents, Wed Nov 11 2026. No macro, syntax, notation, axiom, sorry.
-/
import Derived.Test.YtobkmkplhbaepaaGreatDoorRows
import GoSem.ClaimSeven
namespace Go.Proofs.YtobkmkplhbaepaaGreatDoor
namespace Rows

/-- THE TIED CARD OF 'replevinlaw46.VersionsOf'. -/
def versionsOfCard : Claim7 := { stood := { row := versionsOfRow, standIns := [], harness := (true, "358f51166e44ad74dfdeeeaa28390c66ff5664056d4e4ff57b522912e1dd9f80"), looks := false }, kinds := [], alts := [], laidByText := true, laidKinds := [.data], laidTests := true, laidLooks := .later }
def VersionsOfCardSaid : Prop := Claim7.holds Tryz.pinned (.plain (OpenSpec.ofChange versionsOfSpec)) versionsOfCard

/-- THE TIED CARD OF 'replevinlaw46.VersionsChanges'. -/
def versionsChangesCard : Claim7 := { stood := { row := versionsChangesRow, standIns := [], harness := (true, "358f51166e44ad74dfdeeeaa28390c66ff5664056d4e4ff57b522912e1dd9f80"), looks := false }, kinds := [], alts := [], laidByText := true, laidKinds := [.data], laidTests := true, laidLooks := .later }
def VersionsChangesCardSaid : Prop := Claim7.holds Tryz.pinned (.plain (OpenSpec.ofChange versionsChangesSpec)) versionsChangesCard

/-- THE TIED CARD OF 'replevinlaw46.VersionsAppends'. -/
def versionsAppendsCard : Claim7 := { stood := { row := versionsAppendsRow, standIns := [], harness := (true, "358f51166e44ad74dfdeeeaa28390c66ff5664056d4e4ff57b522912e1dd9f80"), looks := false }, kinds := [], alts := [], laidByText := true, laidKinds := [.data], laidTests := true, laidLooks := .later }
def VersionsAppendsCardSaid : Prop := Claim7.holds Tryz.pinned (.plain (OpenSpec.ofChange versionsAppendsSpec)) versionsAppendsCard

/-- THE TIED CARD OF 'replevinlaw46.VersionsCommon'. -/
def versionsCommonCard : Claim7 := { stood := { row := versionsCommonRow, standIns := [], harness := (true, "358f51166e44ad74dfdeeeaa28390c66ff5664056d4e4ff57b522912e1dd9f80"), looks := false }, kinds := [], alts := [], laidByText := true, laidKinds := [.data], laidTests := true, laidLooks := .later }
def VersionsCommonCardSaid : Prop := Claim7.holds Tryz.pinned (.plain (OpenSpec.ofChange versionsCommonSpec)) versionsCommonCard

/-- THE TIED CARD OF 'replevinlaw46.VersionsNil'. -/
def versionsNilCard : Claim7 := { stood := { row := versionsNilRow, standIns := [], harness := (true, "358f51166e44ad74dfdeeeaa28390c66ff5664056d4e4ff57b522912e1dd9f80"), looks := false }, kinds := [], alts := [], laidByText := true, laidKinds := [.data], laidTests := true, laidLooks := .later }
def VersionsNilCardSaid : Prop := Claim7.holds Tryz.pinned (.plain (OpenSpec.ofChange versionsNilSpec)) versionsNilCard

/-- THE SECOND FORM's CARD OF 'replevinlaw46.VersionsOf'. -/
def versionsOfUptoCard : Claim7 := { stood := { row := versionsOfUptoRow, standIns := [], harness := (true, "358f51166e44ad74dfdeeeaa28390c66ff5664056d4e4ff57b522912e1dd9f80"), looks := false }, kinds := [], alts := [], laidByText := true, laidKinds := [.data], laidTests := true, laidLooks := .later }
def VersionsOfUptoCardSaid : Prop := Claim7.holds Tryz.pinned (.plain (OpenSpec.upto versionsOfSpec)) versionsOfUptoCard

/-- THE SECOND FORM's CARD OF 'replevinlaw46.VersionsChanges'. -/
def versionsChangesUptoCard : Claim7 := { stood := { row := versionsChangesUptoRow, standIns := [], harness := (true, "358f51166e44ad74dfdeeeaa28390c66ff5664056d4e4ff57b522912e1dd9f80"), looks := false }, kinds := [], alts := [], laidByText := true, laidKinds := [.data], laidTests := true, laidLooks := .later }
def VersionsChangesUptoCardSaid : Prop := Claim7.holds Tryz.pinned (.plain (OpenSpec.upto versionsChangesSpec)) versionsChangesUptoCard

/-- THE SECOND FORM's CARD OF 'replevinlaw46.VersionsAppends'. -/
def versionsAppendsUptoCard : Claim7 := { stood := { row := versionsAppendsUptoRow, standIns := [], harness := (true, "358f51166e44ad74dfdeeeaa28390c66ff5664056d4e4ff57b522912e1dd9f80"), looks := false }, kinds := [], alts := [], laidByText := true, laidKinds := [.data], laidTests := true, laidLooks := .later }
def VersionsAppendsUptoCardSaid : Prop := Claim7.holds Tryz.pinned (.plain (OpenSpec.upto versionsAppendsSpec)) versionsAppendsUptoCard

/-- THE SECOND FORM's CARD OF 'replevinlaw46.VersionsCommon'. -/
def versionsCommonUptoCard : Claim7 := { stood := { row := versionsCommonUptoRow, standIns := [], harness := (true, "358f51166e44ad74dfdeeeaa28390c66ff5664056d4e4ff57b522912e1dd9f80"), looks := false }, kinds := [], alts := [], laidByText := true, laidKinds := [.data], laidTests := true, laidLooks := .later }
def VersionsCommonUptoCardSaid : Prop := Claim7.holds Tryz.pinned (.plain (OpenSpec.upto versionsCommonSpec)) versionsCommonUptoCard

/-- THE SECOND FORM's CARD OF 'replevinlaw46.VersionsNil'. -/
def versionsNilUptoCard : Claim7 := { stood := { row := versionsNilUptoRow, standIns := [], harness := (true, "358f51166e44ad74dfdeeeaa28390c66ff5664056d4e4ff57b522912e1dd9f80"), looks := false }, kinds := [], alts := [], laidByText := true, laidKinds := [.data], laidTests := true, laidLooks := .later }
def VersionsNilUptoCardSaid : Prop := Claim7.holds Tryz.pinned (.plain (OpenSpec.upto versionsNilSpec)) versionsNilUptoCard
end Rows
end Go.Proofs.YtobkmkplhbaepaaGreatDoor
