/-
  DERIVED. GIVEN WITH THE SEED: THE CARDS: each row of YtkofafcgcnciaaaGreatDoorRows.lean that lists a variable, with what it lists TIED to the program's text (the seventh form; the later family's looks); each row that meets fmt, with fmt's text TOLD by the authors' own Lean function (tested against real Go, not proved from fmt's source: count such statements apart). THE CARD IS WHAT COUNTS. Prove the row's statement (the work); the ties are given (YtkofafcgcnciaaaGreatDoorTie.lean); close each card by the builder's one call (the guide's Derived/Test/ToyasCard.lean, 'card_holds'). Laid BY PROGRAM, IN A SANDBOX (cutbox-door.mjs). By AI agents, Wed Nov 11 2026. No macro, syntax, notation, axiom, sorry.
-/
import Derived.Test.YtkofafcgcnciaaaGreatDoorRows
import GoSem.ClaimSeven
namespace Go.Proofs.YtkofafcgcnciaaaGreatDoor
namespace Rows

/-- THE TIED CARD OF 'tapestrylaw19.RunsNames'. -/
def runsNamesCard : Claim7 := { stood := { row := runsNamesRow, standIns := [], harness := (true, "2c195dc65ed4078564fb1d73e964a54463c61514da5f5138d54389dbe5470197"), looks := false }, kinds := [], alts := [], laidByText := true, laidKinds := [.data, .data, .data], laidTests := true, laidLooks := .later }
def RunsNamesCardSaid : Prop := Claim7.holds Tryz.pinned (.plain (OpenSpec.ofChange runsNamesSpec)) runsNamesCard

/-- THE TIED CARD OF 'tapestrylaw19.RunsFollows'. -/
def runsFollowsCard : Claim7 := { stood := { row := runsFollowsRow, standIns := [], harness := (true, "2c195dc65ed4078564fb1d73e964a54463c61514da5f5138d54389dbe5470197"), looks := false }, kinds := [], alts := [], laidByText := true, laidKinds := [.data, .data, .data], laidTests := true, laidLooks := .later }
def RunsFollowsCardSaid : Prop := Claim7.holds Tryz.pinned (.plain (OpenSpec.ofChange runsFollowsSpec)) runsFollowsCard

/-- THE TIED CARD OF 'tapestrylaw19.RunsNil'. -/
def runsNilCard : Claim7 := { stood := { row := runsNilRow, standIns := [], harness := (true, "2c195dc65ed4078564fb1d73e964a54463c61514da5f5138d54389dbe5470197"), looks := false }, kinds := [], alts := [], laidByText := true, laidKinds := [.data, .data, .data], laidTests := true, laidLooks := .later }
def RunsNilCardSaid : Prop := Claim7.holds Tryz.pinned (.plain (OpenSpec.ofChange runsNilSpec)) runsNilCard

/-- THE TIED CARD OF 'tapestrylaw19.RunsAgree'. -/
def runsAgreeCard : Claim7 := { stood := { row := runsAgreeRow, standIns := [], harness := (true, "2c195dc65ed4078564fb1d73e964a54463c61514da5f5138d54389dbe5470197"), looks := false }, kinds := [], alts := [], laidByText := true, laidKinds := [.data, .data, .data], laidTests := true, laidLooks := .later }
def RunsAgreeCardSaid : Prop := Claim7.holds Tryz.pinned (.plain (OpenSpec.ofChange runsAgreeSpec)) runsAgreeCard

/-- THE TIED CARD OF 'tapestrylaw19.RunsPlays'. -/
def runsPlaysCard : Claim7 := { stood := { row := runsPlaysRow, standIns := [], harness := (true, "2c195dc65ed4078564fb1d73e964a54463c61514da5f5138d54389dbe5470197"), looks := false }, kinds := [], alts := [], laidByText := true, laidKinds := [.data, .data, .data], laidTests := true, laidLooks := .later }
def RunsPlaysCardSaid : Prop := Claim7.holds Tryz.pinned (.plain (OpenSpec.ofChange runsPlaysSpec)) runsPlaysCard

/-- THE TIED CARD OF 'tapestrylaw19.RunsWhole'. -/
def runsWholeCard : Claim7 := { stood := { row := runsWholeRow, standIns := [], harness := (true, "2c195dc65ed4078564fb1d73e964a54463c61514da5f5138d54389dbe5470197"), looks := false }, kinds := [], alts := [], laidByText := true, laidKinds := [.data, .data, .data], laidTests := true, laidLooks := .later }
def RunsWholeCardSaid : Prop := Claim7.holds Tryz.pinned (.plain (OpenSpec.ofChange runsWholeSpec)) runsWholeCard

/-- THE SECOND FORM's CARD OF 'tapestrylaw19.RunsNames'. -/
def runsNamesUptoCard : Claim7 := { stood := { row := runsNamesUptoRow, standIns := [], harness := (true, "2c195dc65ed4078564fb1d73e964a54463c61514da5f5138d54389dbe5470197"), looks := false }, kinds := [], alts := [], laidByText := true, laidKinds := [.data, .data, .data], laidTests := true, laidLooks := .later }
def RunsNamesUptoCardSaid : Prop := Claim7.holds Tryz.pinned (.plain (OpenSpec.upto runsNamesSpec)) runsNamesUptoCard

/-- THE SECOND FORM's CARD OF 'tapestrylaw19.RunsFollows'. -/
def runsFollowsUptoCard : Claim7 := { stood := { row := runsFollowsUptoRow, standIns := [], harness := (true, "2c195dc65ed4078564fb1d73e964a54463c61514da5f5138d54389dbe5470197"), looks := false }, kinds := [], alts := [], laidByText := true, laidKinds := [.data, .data, .data], laidTests := true, laidLooks := .later }
def RunsFollowsUptoCardSaid : Prop := Claim7.holds Tryz.pinned (.plain (OpenSpec.upto runsFollowsSpec)) runsFollowsUptoCard

/-- THE SECOND FORM's CARD OF 'tapestrylaw19.RunsNil'. -/
def runsNilUptoCard : Claim7 := { stood := { row := runsNilUptoRow, standIns := [], harness := (true, "2c195dc65ed4078564fb1d73e964a54463c61514da5f5138d54389dbe5470197"), looks := false }, kinds := [], alts := [], laidByText := true, laidKinds := [.data, .data, .data], laidTests := true, laidLooks := .later }
def RunsNilUptoCardSaid : Prop := Claim7.holds Tryz.pinned (.plain (OpenSpec.upto runsNilSpec)) runsNilUptoCard

/-- THE SECOND FORM's CARD OF 'tapestrylaw19.RunsAgree'. -/
def runsAgreeUptoCard : Claim7 := { stood := { row := runsAgreeUptoRow, standIns := [], harness := (true, "2c195dc65ed4078564fb1d73e964a54463c61514da5f5138d54389dbe5470197"), looks := false }, kinds := [], alts := [], laidByText := true, laidKinds := [.data, .data, .data], laidTests := true, laidLooks := .later }
def RunsAgreeUptoCardSaid : Prop := Claim7.holds Tryz.pinned (.plain (OpenSpec.upto runsAgreeSpec)) runsAgreeUptoCard

/-- THE SECOND FORM's CARD OF 'tapestrylaw19.RunsPlays'. -/
def runsPlaysUptoCard : Claim7 := { stood := { row := runsPlaysUptoRow, standIns := [], harness := (true, "2c195dc65ed4078564fb1d73e964a54463c61514da5f5138d54389dbe5470197"), looks := false }, kinds := [], alts := [], laidByText := true, laidKinds := [.data, .data, .data], laidTests := true, laidLooks := .later }
def RunsPlaysUptoCardSaid : Prop := Claim7.holds Tryz.pinned (.plain (OpenSpec.upto runsPlaysSpec)) runsPlaysUptoCard

/-- THE SECOND FORM's CARD OF 'tapestrylaw19.RunsWhole'. -/
def runsWholeUptoCard : Claim7 := { stood := { row := runsWholeUptoRow, standIns := [], harness := (true, "2c195dc65ed4078564fb1d73e964a54463c61514da5f5138d54389dbe5470197"), looks := false }, kinds := [], alts := [], laidByText := true, laidKinds := [.data, .data, .data], laidTests := true, laidLooks := .later }
def RunsWholeUptoCardSaid : Prop := Claim7.holds Tryz.pinned (.plain (OpenSpec.upto runsWholeSpec)) runsWholeUptoCard
end Rows
end Go.Proofs.YtkofafcgcnciaaaGreatDoor
