/-
  DERIVED. GIVEN WITH THE SEED: THE CARDS: each row of YtelindgnkpfkiaaGreatDoorRows.lean that lists a variable, with what it lists TIED to the program's text (the seventh form; the later family's looks); each row that meets fmt, with fmt's text TOLD by the authors' own Lean function (tested against real Go, not proved from fmt's source: count such statements apart). THE CARD IS WHAT COUNTS. Prove the row's statement (the work); the ties are given (YtelindgnkpfkiaaGreatDoorTie.lean); close each card by the builder's one call (the guide's Derived/Test/ToyasCard.lean, 'card_holds'). Laid BY PROGRAM, IN A SANDBOX (cutbox-door.mjs). By AI agents, Wed Nov 11 2026. No macro, syntax, notation, axiom, sorry.
-/
import Derived.Test.YtelindgnkpfkiaaGreatDoorRows
import GoSem.ClaimSeven
namespace Go.Proofs.YtelindgnkpfkiaaGreatDoor
namespace Rows

/-- THE TIED CARD OF 'kedgelaw11.CheckMore'. -/
def checkMoreCard : Claim7 := { stood := { row := checkMoreRow, standIns := [], harness := (true, "dbad81d62de4563963c86dc549638ca17a9168c69bc3d74bf0745c0af35bc2be"), looks := true }, kinds := [], alts := [], laidByText := true, laidKinds := [.handle], laidTests := true, laidLooks := .later }
def CheckMoreCardSaid : Prop := Claim7.holds Tryz.pinned (.plain (OpenSpec.ofChange checkMoreSpec)) checkMoreCard

/-- THE TIED CARD OF 'kedgelaw11.CheckFees'. -/
def checkFeesCard : Claim7 := { stood := { row := checkFeesRow, standIns := [], harness := (true, "dbad81d62de4563963c86dc549638ca17a9168c69bc3d74bf0745c0af35bc2be"), looks := true }, kinds := [], alts := [], laidByText := true, laidKinds := [.handle], laidTests := true, laidLooks := .later }
def CheckFeesCardSaid : Prop := Claim7.holds Tryz.pinned (.plain (OpenSpec.ofChange checkFeesSpec)) checkFeesCard

/-- THE TIED CARD OF 'kedgelaw11.CheckKeeps'. -/
def checkKeepsCard : Claim7 := { stood := { row := checkKeepsRow, standIns := [], harness := (true, "dbad81d62de4563963c86dc549638ca17a9168c69bc3d74bf0745c0af35bc2be"), looks := true }, kinds := [], alts := [], laidByText := true, laidKinds := [.handle], laidTests := true, laidLooks := .later }
def CheckKeepsCardSaid : Prop := Claim7.holds Tryz.pinned (.plain (OpenSpec.ofChange checkKeepsSpec)) checkKeepsCard

/-- THE TIED CARD OF 'kedgelaw11.CheckLater'. -/
def checkLaterCard : Claim7 := { stood := { row := checkLaterRow, standIns := [], harness := (true, "dbad81d62de4563963c86dc549638ca17a9168c69bc3d74bf0745c0af35bc2be"), looks := true }, kinds := [], alts := [], laidByText := true, laidKinds := [.handle], laidTests := true, laidLooks := .later }
def CheckLaterCardSaid : Prop := Claim7.holds Tryz.pinned (.plain (OpenSpec.ofChange checkLaterSpec)) checkLaterCard

/-- THE SECOND FORM's CARD OF 'kedgelaw11.CheckMore'. -/
def checkMoreUptoCard : Claim7 := { stood := { row := checkMoreUptoRow, standIns := [], harness := (true, "dbad81d62de4563963c86dc549638ca17a9168c69bc3d74bf0745c0af35bc2be"), looks := true }, kinds := [], alts := [], laidByText := true, laidKinds := [.handle], laidTests := true, laidLooks := .later }
def CheckMoreUptoCardSaid : Prop := Claim7.holds Tryz.pinned (.plain (OpenSpec.upto checkMoreSpec)) checkMoreUptoCard

/-- THE SECOND FORM's CARD OF 'kedgelaw11.CheckFees'. -/
def checkFeesUptoCard : Claim7 := { stood := { row := checkFeesUptoRow, standIns := [], harness := (true, "dbad81d62de4563963c86dc549638ca17a9168c69bc3d74bf0745c0af35bc2be"), looks := true }, kinds := [], alts := [], laidByText := true, laidKinds := [.handle], laidTests := true, laidLooks := .later }
def CheckFeesUptoCardSaid : Prop := Claim7.holds Tryz.pinned (.plain (OpenSpec.upto checkFeesSpec)) checkFeesUptoCard

/-- THE SECOND FORM's CARD OF 'kedgelaw11.CheckKeeps'. -/
def checkKeepsUptoCard : Claim7 := { stood := { row := checkKeepsUptoRow, standIns := [], harness := (true, "dbad81d62de4563963c86dc549638ca17a9168c69bc3d74bf0745c0af35bc2be"), looks := true }, kinds := [], alts := [], laidByText := true, laidKinds := [.handle], laidTests := true, laidLooks := .later }
def CheckKeepsUptoCardSaid : Prop := Claim7.holds Tryz.pinned (.plain (OpenSpec.upto checkKeepsSpec)) checkKeepsUptoCard

/-- THE SECOND FORM's CARD OF 'kedgelaw11.CheckLater'. -/
def checkLaterUptoCard : Claim7 := { stood := { row := checkLaterUptoRow, standIns := [], harness := (true, "dbad81d62de4563963c86dc549638ca17a9168c69bc3d74bf0745c0af35bc2be"), looks := true }, kinds := [], alts := [], laidByText := true, laidKinds := [.handle], laidTests := true, laidLooks := .later }
def CheckLaterUptoCardSaid : Prop := Claim7.holds Tryz.pinned (.plain (OpenSpec.upto checkLaterSpec)) checkLaterUptoCard
end Rows
end Go.Proofs.YtelindgnkpfkiaaGreatDoor
