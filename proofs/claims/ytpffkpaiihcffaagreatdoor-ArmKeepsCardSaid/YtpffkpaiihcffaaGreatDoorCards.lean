/-
  DERIVED. GIVEN WITH THE SEED: THE CARDS: each row of YtpffkpaiihcffaaGreatDoorRows.lean that lists a variable, with what it lists TIED to the program's text (the seventh form; the later family's looks); each row that meets fmt, with fmt's text TOLD by the authors' own Lean function (tested against real Go, not proved from fmt's source: count such statements apart). THE CARD IS WHAT COUNTS. Prove the row's statement (the work); the ties are given (YtpffkpaiihcffaaGreatDoorTie.lean); close each card by the builder's one call (the guide's Derived/Test/ToyasCard.lean, 'card_holds'). Laid BY PROGRAM, IN A SANDBOX (cutbox-door.mjs). By AI agents, Wed Nov 11 2026. No macro, syntax, notation, axiom, sorry.
-/
import Derived.Test.YtpffkpaiihcffaaGreatDoorRows
import GoSem.ClaimSeven
namespace Go.Proofs.YtpffkpaiihcffaaGreatDoor
namespace Rows

/-- THE TIED CARD OF 'rametlaw08.ArmStands'. -/
def armStandsCard : Claim7 := { stood := { row := armStandsRow, standIns := [], harness := (true, "025c58500245fd7eaf29d61cbf87cb2cd566428b234af423b7eed7d898137334"), looks := false }, kinds := [], alts := [], laidByText := true, laidKinds := [.data, .data], laidTests := true, laidLooks := .later }
def ArmStandsCardSaid : Prop := Claim7.holds Tryz.pinned (.plain (OpenSpec.ofChange armStandsSpec)) armStandsCard

/-- THE TIED CARD OF 'rametlaw08.ArmMoves'. -/
def armMovesCard : Claim7 := { stood := { row := armMovesRow, standIns := [], harness := (true, "025c58500245fd7eaf29d61cbf87cb2cd566428b234af423b7eed7d898137334"), looks := false }, kinds := [], alts := [], laidByText := true, laidKinds := [.data, .data], laidTests := true, laidLooks := .later }
def ArmMovesCardSaid : Prop := Claim7.holds Tryz.pinned (.plain (OpenSpec.ofChange armMovesSpec)) armMovesCard

/-- THE TIED CARD OF 'rametlaw08.ArmLoaded'. -/
def armLoadedCard : Claim7 := { stood := { row := armLoadedRow, standIns := [], harness := (true, "025c58500245fd7eaf29d61cbf87cb2cd566428b234af423b7eed7d898137334"), looks := false }, kinds := [], alts := [], laidByText := true, laidKinds := [.data, .data], laidTests := true, laidLooks := .later }
def ArmLoadedCardSaid : Prop := Claim7.holds Tryz.pinned (.plain (OpenSpec.ofChange armLoadedSpec)) armLoadedCard

/-- THE TIED CARD OF 'rametlaw08.ArmTrains'. -/
def armTrainsCard : Claim7 := { stood := { row := armTrainsRow, standIns := [], harness := (true, "025c58500245fd7eaf29d61cbf87cb2cd566428b234af423b7eed7d898137334"), looks := false }, kinds := [], alts := [], laidByText := true, laidKinds := [.data, .data], laidTests := true, laidLooks := .later }
def ArmTrainsCardSaid : Prop := Claim7.holds Tryz.pinned (.plain (OpenSpec.ofChange armTrainsSpec)) armTrainsCard

/-- THE TIED CARD OF 'rametlaw08.ArmKeeps'. -/
def armKeepsCard : Claim7 := { stood := { row := armKeepsRow, standIns := [], harness := (true, "025c58500245fd7eaf29d61cbf87cb2cd566428b234af423b7eed7d898137334"), looks := false }, kinds := [], alts := [], laidByText := true, laidKinds := [.data, .data], laidTests := true, laidLooks := .later }
def ArmKeepsCardSaid : Prop := Claim7.holds Tryz.pinned (.plain (OpenSpec.ofChange armKeepsSpec)) armKeepsCard

/-- THE TIED CARD OF 'rametlaw08.ArmNamed'. -/
def armNamedCard : Claim7 := { stood := { row := armNamedRow, standIns := [], harness := (true, "025c58500245fd7eaf29d61cbf87cb2cd566428b234af423b7eed7d898137334"), looks := false }, kinds := [], alts := [], laidByText := true, laidKinds := [.data, .data, .data, .data, .data], laidTests := true, laidLooks := .later }
def ArmNamedCardSaid : Prop := Claim7.holds Tryz.pinned (.plain (OpenSpec.ofChange armNamedSpec)) armNamedCard

/-- THE TIED CARD OF 'rametlaw08.ArmWorld'. -/
def armWorldCard : Claim7 := { stood := { row := armWorldRow, standIns := [], harness := (true, "025c58500245fd7eaf29d61cbf87cb2cd566428b234af423b7eed7d898137334"), looks := false }, kinds := [], alts := [], laidByText := true, laidKinds := [.data, .data, .data, .data, .data], laidTests := true, laidLooks := .later }
def ArmWorldCardSaid : Prop := Claim7.holds Tryz.pinned (.plain (OpenSpec.ofChange armWorldSpec)) armWorldCard

/-- THE SECOND FORM's CARD OF 'rametlaw08.ArmStands'. -/
def armStandsUptoCard : Claim7 := { stood := { row := armStandsUptoRow, standIns := [], harness := (true, "025c58500245fd7eaf29d61cbf87cb2cd566428b234af423b7eed7d898137334"), looks := false }, kinds := [], alts := [], laidByText := true, laidKinds := [.data, .data], laidTests := true, laidLooks := .later }
def ArmStandsUptoCardSaid : Prop := Claim7.holds Tryz.pinned (.plain (OpenSpec.upto armStandsSpec)) armStandsUptoCard

/-- THE SECOND FORM's CARD OF 'rametlaw08.ArmMoves'. -/
def armMovesUptoCard : Claim7 := { stood := { row := armMovesUptoRow, standIns := [], harness := (true, "025c58500245fd7eaf29d61cbf87cb2cd566428b234af423b7eed7d898137334"), looks := false }, kinds := [], alts := [], laidByText := true, laidKinds := [.data, .data], laidTests := true, laidLooks := .later }
def ArmMovesUptoCardSaid : Prop := Claim7.holds Tryz.pinned (.plain (OpenSpec.upto armMovesSpec)) armMovesUptoCard

/-- THE SECOND FORM's CARD OF 'rametlaw08.ArmLoaded'. -/
def armLoadedUptoCard : Claim7 := { stood := { row := armLoadedUptoRow, standIns := [], harness := (true, "025c58500245fd7eaf29d61cbf87cb2cd566428b234af423b7eed7d898137334"), looks := false }, kinds := [], alts := [], laidByText := true, laidKinds := [.data, .data], laidTests := true, laidLooks := .later }
def ArmLoadedUptoCardSaid : Prop := Claim7.holds Tryz.pinned (.plain (OpenSpec.upto armLoadedSpec)) armLoadedUptoCard

/-- THE SECOND FORM's CARD OF 'rametlaw08.ArmTrains'. -/
def armTrainsUptoCard : Claim7 := { stood := { row := armTrainsUptoRow, standIns := [], harness := (true, "025c58500245fd7eaf29d61cbf87cb2cd566428b234af423b7eed7d898137334"), looks := false }, kinds := [], alts := [], laidByText := true, laidKinds := [.data, .data], laidTests := true, laidLooks := .later }
def ArmTrainsUptoCardSaid : Prop := Claim7.holds Tryz.pinned (.plain (OpenSpec.upto armTrainsSpec)) armTrainsUptoCard

/-- THE SECOND FORM's CARD OF 'rametlaw08.ArmKeeps'. -/
def armKeepsUptoCard : Claim7 := { stood := { row := armKeepsUptoRow, standIns := [], harness := (true, "025c58500245fd7eaf29d61cbf87cb2cd566428b234af423b7eed7d898137334"), looks := false }, kinds := [], alts := [], laidByText := true, laidKinds := [.data, .data], laidTests := true, laidLooks := .later }
def ArmKeepsUptoCardSaid : Prop := Claim7.holds Tryz.pinned (.plain (OpenSpec.upto armKeepsSpec)) armKeepsUptoCard

/-- THE SECOND FORM's CARD OF 'rametlaw08.ArmNamed'. -/
def armNamedUptoCard : Claim7 := { stood := { row := armNamedUptoRow, standIns := [], harness := (true, "025c58500245fd7eaf29d61cbf87cb2cd566428b234af423b7eed7d898137334"), looks := false }, kinds := [], alts := [], laidByText := true, laidKinds := [.data, .data, .data, .data, .data], laidTests := true, laidLooks := .later }
def ArmNamedUptoCardSaid : Prop := Claim7.holds Tryz.pinned (.plain (OpenSpec.upto armNamedSpec)) armNamedUptoCard

/-- THE SECOND FORM's CARD OF 'rametlaw08.ArmWorld'. -/
def armWorldUptoCard : Claim7 := { stood := { row := armWorldUptoRow, standIns := [], harness := (true, "025c58500245fd7eaf29d61cbf87cb2cd566428b234af423b7eed7d898137334"), looks := false }, kinds := [], alts := [], laidByText := true, laidKinds := [.data, .data, .data, .data, .data], laidTests := true, laidLooks := .later }
def ArmWorldUptoCardSaid : Prop := Claim7.holds Tryz.pinned (.plain (OpenSpec.upto armWorldSpec)) armWorldUptoCard
end Rows
end Go.Proofs.YtpffkpaiihcffaaGreatDoor
