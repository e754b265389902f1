/-
  DERIVED. GIVEN WITH THE SEED: THE CARDS: each row of YthhhomgbpnmeeaaGreatDoorRows.lean that lists a variable, with what it lists TIED to the program's text (the seventh form; the later family's looks); each row that meets fmt, with fmt's text TOLD by the authors' own Lean function (tested against real Go, not proved from fmt's source: count such statements apart). THE CARD IS WHAT COUNTS. Prove the row's statement (the work); the ties are given (YthhhomgbpnmeeaaGreatDoorTie.lean); close each card by the builder's one call (the guide's Derived/Test/ToyasCard.lean, 'card_holds'). Laid BY PROGRAM, IN A SANDBOX (cutbox-door.mjs). By AI agents, Wed Nov 11 2026. No macro, syntax, notation, axiom, sorry.
-/
import Derived.Test.YthhhomgbpnmeeaaGreatDoorRows
import GoSem.ClaimSeven
namespace Go.Proofs.YthhhomgbpnmeeaaGreatDoor
namespace Rows

/-- THE TIED CARD OF 'cloisterlaw22.PosixKinds'. -/
def posixKindsCard : Claim7 := { stood := { row := posixKindsRow, standIns := [], harness := (true, "5cdae78a57f4d77dd488fe26ea9a9b461f43dd3795ceb09234bc844e7128efc1"), looks := false }, kinds := [], alts := [], laidByText := true, laidKinds := [.data, .data, .pinned], laidTests := true, laidLooks := .later }
def PosixKindsCardSaid : Prop := Claim7.holds Tryz.pinned (.plain (OpenSpec.ofChange posixKindsSpec)) posixKindsCard

/-- THE TIED CARD OF 'cloisterlaw22.PosixNil'. -/
def posixNilCard : Claim7 := { stood := { row := posixNilRow, standIns := [], harness := (true, "5cdae78a57f4d77dd488fe26ea9a9b461f43dd3795ceb09234bc844e7128efc1"), looks := false }, kinds := [], alts := [], laidByText := true, laidKinds := [.data, .data, .pinned], laidTests := true, laidLooks := .later }
def PosixNilCardSaid : Prop := Claim7.holds Tryz.pinned (.plain (OpenSpec.ofChange posixNilSpec)) posixNilCard

/-- THE TIED CARD OF 'cloisterlaw23.ImageSaves'. -/
def imageSavesCard : Claim7 := { stood := { row := imageSavesRow, standIns := [], harness := (true, "5cdae78a57f4d77dd488fe26ea9a9b461f43dd3795ceb09234bc844e7128efc1"), looks := false }, kinds := [], alts := [], laidByText := true, laidKinds := [.data, .data, .pinned], laidTests := true, laidLooks := .later }
def ImageSavesCardSaid : Prop := Claim7.holds Tryz.pinned (.plain (OpenSpec.ofChange imageSavesSpec)) imageSavesCard

/-- THE TIED CARD OF 'cloisterlaw22.PosixPlays'. -/
def posixPlaysCard : Claim7 := { stood := { row := posixPlaysRow, standIns := [], harness := (true, "5cdae78a57f4d77dd488fe26ea9a9b461f43dd3795ceb09234bc844e7128efc1"), looks := false }, kinds := [], alts := [], laidByText := true, laidKinds := [.data, .data, .data, .pinned], laidTests := true, laidLooks := .later }
def PosixPlaysCardSaid : Prop := Claim7.holds Tryz.pinned (.plain (OpenSpec.ofChange posixPlaysSpec)) posixPlaysCard

/-- THE TIED CARD OF 'cloisterlaw22.PosixBuilds'. -/
def posixBuildsCard : Claim7 := { stood := { row := posixBuildsRow, standIns := [], harness := (true, "5cdae78a57f4d77dd488fe26ea9a9b461f43dd3795ceb09234bc844e7128efc1"), looks := false }, kinds := [], alts := [], laidByText := true, laidKinds := [.data, .data, .pinned], laidTests := true, laidLooks := .later }
def PosixBuildsCardSaid : Prop := Claim7.holds Tryz.pinned (.plain (OpenSpec.ofChange posixBuildsSpec)) posixBuildsCard

/-- THE TIED CARD OF 'cloisterlaw22.PosixSpoils'. -/
def posixSpoilsCard : Claim7 := { stood := { row := posixSpoilsRow, standIns := [], harness := (true, "5cdae78a57f4d77dd488fe26ea9a9b461f43dd3795ceb09234bc844e7128efc1"), looks := false }, kinds := [], alts := [], laidByText := true, laidKinds := [.data, .data, .pinned], laidTests := true, laidLooks := .later }
def PosixSpoilsCardSaid : Prop := Claim7.holds Tryz.pinned (.plain (OpenSpec.ofChange posixSpoilsSpec)) posixSpoilsCard

/-- THE TIED CARD OF 'cloisterlaw23.ImageHomes'. -/
def imageHomesCard : Claim7 := { stood := { row := imageHomesRow, standIns := [], harness := (true, "5cdae78a57f4d77dd488fe26ea9a9b461f43dd3795ceb09234bc844e7128efc1"), looks := false }, kinds := [], alts := [], laidByText := true, laidKinds := [.data, .data, .pinned], laidTests := true, laidLooks := .later }
def ImageHomesCardSaid : Prop := Claim7.holds Tryz.pinned (.plain (OpenSpec.ofChange imageHomesSpec)) imageHomesCard

/-- THE TIED CARD OF 'cloisterlaw23.ImageBack'. -/
def imageBackCard : Claim7 := { stood := { row := imageBackRow, standIns := [], harness := (true, "5cdae78a57f4d77dd488fe26ea9a9b461f43dd3795ceb09234bc844e7128efc1"), looks := false }, kinds := [], alts := [], laidByText := true, laidKinds := [.data, .data, .pinned], laidTests := true, laidLooks := .later }
def ImageBackCardSaid : Prop := Claim7.holds Tryz.pinned (.plain (OpenSpec.ofChange imageBackSpec)) imageBackCard

/-- THE TIED CARD OF 'cloisterlaw23.ImageTurned'. -/
def imageTurnedCard : Claim7 := { stood := { row := imageTurnedRow, standIns := [], harness := (true, "5cdae78a57f4d77dd488fe26ea9a9b461f43dd3795ceb09234bc844e7128efc1"), looks := false }, kinds := [], alts := [], laidByText := true, laidKinds := [.data, .data, .pinned], laidTests := true, laidLooks := .later }
def ImageTurnedCardSaid : Prop := Claim7.holds Tryz.pinned (.plain (OpenSpec.ofChange imageTurnedSpec)) imageTurnedCard

/-- THE SECOND FORM's CARD OF 'cloisterlaw22.PosixKinds'. -/
def posixKindsUptoCard : Claim7 := { stood := { row := posixKindsUptoRow, standIns := [], harness := (true, "5cdae78a57f4d77dd488fe26ea9a9b461f43dd3795ceb09234bc844e7128efc1"), looks := false }, kinds := [], alts := [], laidByText := true, laidKinds := [.data, .data, .pinned], laidTests := true, laidLooks := .later }
def PosixKindsUptoCardSaid : Prop := Claim7.holds Tryz.pinned (.plain (OpenSpec.upto posixKindsSpec)) posixKindsUptoCard

/-- THE SECOND FORM's CARD OF 'cloisterlaw22.PosixNil'. -/
def posixNilUptoCard : Claim7 := { stood := { row := posixNilUptoRow, standIns := [], harness := (true, "5cdae78a57f4d77dd488fe26ea9a9b461f43dd3795ceb09234bc844e7128efc1"), looks := false }, kinds := [], alts := [], laidByText := true, laidKinds := [.data, .data, .pinned], laidTests := true, laidLooks := .later }
def PosixNilUptoCardSaid : Prop := Claim7.holds Tryz.pinned (.plain (OpenSpec.upto posixNilSpec)) posixNilUptoCard

/-- THE SECOND FORM's CARD OF 'cloisterlaw23.ImageSaves'. -/
def imageSavesUptoCard : Claim7 := { stood := { row := imageSavesUptoRow, standIns := [], harness := (true, "5cdae78a57f4d77dd488fe26ea9a9b461f43dd3795ceb09234bc844e7128efc1"), looks := false }, kinds := [], alts := [], laidByText := true, laidKinds := [.data, .data, .pinned], laidTests := true, laidLooks := .later }
def ImageSavesUptoCardSaid : Prop := Claim7.holds Tryz.pinned (.plain (OpenSpec.upto imageSavesSpec)) imageSavesUptoCard

/-- THE SECOND FORM's CARD OF 'cloisterlaw22.PosixPlays'. -/
def posixPlaysUptoCard : Claim7 := { stood := { row := posixPlaysUptoRow, standIns := [], harness := (true, "5cdae78a57f4d77dd488fe26ea9a9b461f43dd3795ceb09234bc844e7128efc1"), looks := false }, kinds := [], alts := [], laidByText := true, laidKinds := [.data, .data, .data, .pinned], laidTests := true, laidLooks := .later }
def PosixPlaysUptoCardSaid : Prop := Claim7.holds Tryz.pinned (.plain (OpenSpec.upto posixPlaysSpec)) posixPlaysUptoCard

/-- THE SECOND FORM's CARD OF 'cloisterlaw22.PosixBuilds'. -/
def posixBuildsUptoCard : Claim7 := { stood := { row := posixBuildsUptoRow, standIns := [], harness := (true, "5cdae78a57f4d77dd488fe26ea9a9b461f43dd3795ceb09234bc844e7128efc1"), looks := false }, kinds := [], alts := [], laidByText := true, laidKinds := [.data, .data, .pinned], laidTests := true, laidLooks := .later }
def PosixBuildsUptoCardSaid : Prop := Claim7.holds Tryz.pinned (.plain (OpenSpec.upto posixBuildsSpec)) posixBuildsUptoCard

/-- THE SECOND FORM's CARD OF 'cloisterlaw22.PosixSpoils'. -/
def posixSpoilsUptoCard : Claim7 := { stood := { row := posixSpoilsUptoRow, standIns := [], harness := (true, "5cdae78a57f4d77dd488fe26ea9a9b461f43dd3795ceb09234bc844e7128efc1"), looks := false }, kinds := [], alts := [], laidByText := true, laidKinds := [.data, .data, .pinned], laidTests := true, laidLooks := .later }
def PosixSpoilsUptoCardSaid : Prop := Claim7.holds Tryz.pinned (.plain (OpenSpec.upto posixSpoilsSpec)) posixSpoilsUptoCard

/-- THE SECOND FORM's CARD OF 'cloisterlaw23.ImageHomes'. -/
def imageHomesUptoCard : Claim7 := { stood := { row := imageHomesUptoRow, standIns := [], harness := (true, "5cdae78a57f4d77dd488fe26ea9a9b461f43dd3795ceb09234bc844e7128efc1"), looks := false }, kinds := [], alts := [], laidByText := true, laidKinds := [.data, .data, .pinned], laidTests := true, laidLooks := .later }
def ImageHomesUptoCardSaid : Prop := Claim7.holds Tryz.pinned (.plain (OpenSpec.upto imageHomesSpec)) imageHomesUptoCard

/-- THE SECOND FORM's CARD OF 'cloisterlaw23.ImageBack'. -/
def imageBackUptoCard : Claim7 := { stood := { row := imageBackUptoRow, standIns := [], harness := (true, "5cdae78a57f4d77dd488fe26ea9a9b461f43dd3795ceb09234bc844e7128efc1"), looks := false }, kinds := [], alts := [], laidByText := true, laidKinds := [.data, .data, .pinned], laidTests := true, laidLooks := .later }
def ImageBackUptoCardSaid : Prop := Claim7.holds Tryz.pinned (.plain (OpenSpec.upto imageBackSpec)) imageBackUptoCard

/-- THE SECOND FORM's CARD OF 'cloisterlaw23.ImageTurned'. -/
def imageTurnedUptoCard : Claim7 := { stood := { row := imageTurnedUptoRow, standIns := [], harness := (true, "5cdae78a57f4d77dd488fe26ea9a9b461f43dd3795ceb09234bc844e7128efc1"), looks := false }, kinds := [], alts := [], laidByText := true, laidKinds := [.data, .data, .pinned], laidTests := true, laidLooks := .later }
def ImageTurnedUptoCardSaid : Prop := Claim7.holds Tryz.pinned (.plain (OpenSpec.upto imageTurnedSpec)) imageTurnedUptoCard
end Rows
end Go.Proofs.YthhhomgbpnmeeaaGreatDoor
