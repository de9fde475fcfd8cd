/-
  DERIVED. GIVEN WITH THE SEED: THE CARDS: each row of YtfnnmecilcnloaaGreatDoorRows.lean that lists a variable, with what it lists TIED to the program's text (the seventh form; the later family's looks); each row that meets fmt, with fmt's text TOLD by the authors' own Lean function (tested against real Go, not proved from fmt's source: count such statements apart). THE CARD IS WHAT COUNTS. Prove the row's statement (the work); the ties are given (YtfnnmecilcnloaaGreatDoorTie.lean); close each card by the builder's one call (the guide's Derived/Test/ToyasCard.lean, 'card_holds'). Laid BY PROGRAM, IN A SANDBOX (cutbox-door.mjs). By AI agents, Wed Nov 11 2026. No macro, syntax, notation, axiom, sorry.
-/
import Derived.Test.YtfnnmecilcnloaaGreatDoorRows
import GoSem.ClaimSeven
namespace Go.Proofs.YtfnnmecilcnloaaGreatDoor
namespace Rows

/-- THE TIED CARD OF 'mailbaglaw18.HeadReceived'. -/
def headReceivedCard : Claim7 := { stood := { row := headReceivedRow, standIns := [], harness := (true, "48e0764dcab1f71d817e6788618ef8dba8603579024dc5b1e243b94f8f5243ee"), looks := true }, kinds := [], alts := [], laidByText := true, laidKinds := [.data, .data, .data, .data, .sentinel, .sentinel, .pinned], laidTests := true, laidLooks := .later }
def HeadReceivedCardSaid : Prop := Claim7.holds Tryz.pinned (.plain (OpenSpec.ofChange headReceivedSpec)) headReceivedCard

/-- THE SECOND FORM's CARD OF 'mailbaglaw18.HeadReceived'. -/
def headReceivedUptoCard : Claim7 := { stood := { row := headReceivedUptoRow, standIns := [], harness := (true, "48e0764dcab1f71d817e6788618ef8dba8603579024dc5b1e243b94f8f5243ee"), looks := true }, kinds := [], alts := [], laidByText := true, laidKinds := [.data, .data, .data, .data, .sentinel, .sentinel, .pinned], laidTests := true, laidLooks := .later }
def HeadReceivedUptoCardSaid : Prop := Claim7.holds Tryz.pinned (.plain (OpenSpec.upto headReceivedSpec)) headReceivedUptoCard
end Rows
end Go.Proofs.YtfnnmecilcnloaaGreatDoor
