/-
  DERIVED. GIVEN WITH THE SEED: THE CARDS: each row of YtobkmkplhbaepaaDoorRows.lean that lists a variable, with what it lists TIED to the program's text (the seventh form; the later family's looks); each row that meets fmt, with fmt's text TOLD by the authors' own Lean function (tested against real Go, not proved from fmt's source: count such statements apart). THE CARD IS WHAT COUNTS. Prove the row's statement (the work); the ties are given (YtobkmkplhbaepaaDoorTie.lean); close each card by the builder's one call (the guide's Derived/Test/ToyasCard.lean, 'card_holds'). Laid BY PROGRAM, IN A SANDBOX (cutbox-door.mjs). By AI agents, Wed Nov 11 2026. No macro, syntax, notation, axiom, sorry.
-/
import Derived.Test.YtobkmkplhbaepaaDoorRows
import GoSem.ClaimSeven
namespace Go.Proofs.YtobkmkplhbaepaaDoor
namespace Rows

/-- THE TIED CARD OF 'replevinlaw46.VersionsReaders'. -/
def versionsReadersCard : Claim7 := { stood := { row := versionsReadersRow, standIns := [], harness := (true, "e0d850047e344e1d726cbaf9b19d2957225002c19a20dfe1f97e2d522d1e577b"), looks := false }, kinds := [], alts := [], laidByText := true, laidKinds := [.data], laidTests := true, laidLooks := .later }
def VersionsReadersCardSaid : Prop := Claim7.holds Tryd.pinned (.plain (OpenSpec.ofChange versionsReadersSpec)) versionsReadersCard

/-- THE TIED CARD OF 'replevinlaw46.VersionsConsistent'. -/
def versionsConsistentCard : Claim7 := { stood := { row := versionsConsistentRow, standIns := [], harness := (true, "e0d850047e344e1d726cbaf9b19d2957225002c19a20dfe1f97e2d522d1e577b"), looks := false }, kinds := [], alts := [], laidByText := true, laidKinds := [.data], laidTests := true, laidLooks := .later }
def VersionsConsistentCardSaid : Prop := Claim7.holds Tryd.pinned (.plain (OpenSpec.ofChange versionsConsistentSpec)) versionsConsistentCard

/-- THE TIED CARD OF 'replevinlaw46.VersionsBuilds'. -/
def versionsBuildsCard : Claim7 := { stood := { row := versionsBuildsRow, standIns := [], harness := (true, "e0d850047e344e1d726cbaf9b19d2957225002c19a20dfe1f97e2d522d1e577b"), looks := false }, kinds := [], alts := [], laidByText := true, laidKinds := [.data], laidTests := true, laidLooks := .later }
def VersionsBuildsCardSaid : Prop := Claim7.holds Tryd.pinned (.plain (OpenSpec.ofChange versionsBuildsSpec)) versionsBuildsCard

/-- THE TIED CARD OF 'replevinlaw46.VersionsStates'. -/
def versionsStatesCard : Claim7 := { stood := { row := versionsStatesRow, standIns := [], harness := (true, "e0d850047e344e1d726cbaf9b19d2957225002c19a20dfe1f97e2d522d1e577b"), looks := false }, kinds := [], alts := [], laidByText := true, laidKinds := [.data], laidTests := true, laidLooks := .later }
def VersionsStatesCardSaid : Prop := Claim7.holds Tryd.pinned (.plain (OpenSpec.ofChange versionsStatesSpec)) versionsStatesCard

/-- THE SECOND FORM's CARD OF 'replevinlaw46.VersionsReaders'. -/
def versionsReadersUptoCard : Claim7 := { stood := { row := versionsReadersUptoRow, standIns := [], harness := (true, "e0d850047e344e1d726cbaf9b19d2957225002c19a20dfe1f97e2d522d1e577b"), looks := false }, kinds := [], alts := [], laidByText := true, laidKinds := [.data], laidTests := true, laidLooks := .later }
def VersionsReadersUptoCardSaid : Prop := Claim7.holds Tryd.pinned (.plain (OpenSpec.upto versionsReadersSpec)) versionsReadersUptoCard

/-- THE SECOND FORM's CARD OF 'replevinlaw46.VersionsConsistent'. -/
def versionsConsistentUptoCard : Claim7 := { stood := { row := versionsConsistentUptoRow, standIns := [], harness := (true, "e0d850047e344e1d726cbaf9b19d2957225002c19a20dfe1f97e2d522d1e577b"), looks := false }, kinds := [], alts := [], laidByText := true, laidKinds := [.data], laidTests := true, laidLooks := .later }
def VersionsConsistentUptoCardSaid : Prop := Claim7.holds Tryd.pinned (.plain (OpenSpec.upto versionsConsistentSpec)) versionsConsistentUptoCard

/-- THE SECOND FORM's CARD OF 'replevinlaw46.VersionsBuilds'. -/
def versionsBuildsUptoCard : Claim7 := { stood := { row := versionsBuildsUptoRow, standIns := [], harness := (true, "e0d850047e344e1d726cbaf9b19d2957225002c19a20dfe1f97e2d522d1e577b"), looks := false }, kinds := [], alts := [], laidByText := true, laidKinds := [.data], laidTests := true, laidLooks := .later }
def VersionsBuildsUptoCardSaid : Prop := Claim7.holds Tryd.pinned (.plain (OpenSpec.upto versionsBuildsSpec)) versionsBuildsUptoCard

/-- THE SECOND FORM's CARD OF 'replevinlaw46.VersionsStates'. -/
def versionsStatesUptoCard : Claim7 := { stood := { row := versionsStatesUptoRow, standIns := [], harness := (true, "e0d850047e344e1d726cbaf9b19d2957225002c19a20dfe1f97e2d522d1e577b"), looks := false }, kinds := [], alts := [], laidByText := true, laidKinds := [.data], laidTests := true, laidLooks := .later }
def VersionsStatesUptoCardSaid : Prop := Claim7.holds Tryd.pinned (.plain (OpenSpec.upto versionsStatesSpec)) versionsStatesUptoCard
end Rows
end Go.Proofs.YtobkmkplhbaepaaDoor
