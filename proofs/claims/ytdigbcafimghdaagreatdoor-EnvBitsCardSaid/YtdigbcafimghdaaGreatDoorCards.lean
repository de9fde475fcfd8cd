/-
  DERIVED. GIVEN WITH THE SEED: THE CARDS: each row of YtdigbcafimghdaaGreatDoorRows.lean that lists a variable, with what it lists TIED to the program's text (the seventh form; the later family's looks); each row that meets fmt, with fmt's text TOLD by the authors' own Lean function (tested against real Go, not proved from fmt's source: count such statements apart). THE CARD IS WHAT COUNTS. Prove the row's statement (the work); the ties are given (YtdigbcafimghdaaGreatDoorTie.lean); close each card by the builder's one call (the guide's Derived/Test/ToyasCard.lean, 'card_holds'). Laid BY PROGRAM, IN A SANDBOX (cutbox-door.mjs). By AI agents, Wed Nov 11 2026. No macro, syntax, notation, axiom, sorry.
-/
import Derived.Test.YtdigbcafimghdaaGreatDoorRows
import GoSem.ClaimSeven
namespace Go.Proofs.YtdigbcafimghdaaGreatDoor
namespace Rows

/-- THE TIED CARD OF 'mailbaglaw19.EnvBack'. -/
def envBackCard : Claim7 := { stood := { row := envBackRow, standIns := [], harness := (true, "419f38ec89f210f9f6db254adfd43384064bf87dc2d7deee0cd606506ed8affc"), looks := true }, kinds := [], alts := [], laidByText := true, laidKinds := [.data, .data, .data, .data, .sentinel, .sentinel, .pinned], laidTests := true, laidLooks := .later }
def EnvBackCardSaid : Prop := Claim7.holds Tryz.pinned (.plain (OpenSpec.ofChange envBackSpec)) envBackCard

/-- THE TIED CARD OF 'mailbaglaw19.EnvBytes'. -/
def envBytesCard : Claim7 := { stood := { row := envBytesRow, standIns := [], harness := (true, "419f38ec89f210f9f6db254adfd43384064bf87dc2d7deee0cd606506ed8affc"), looks := true }, kinds := [], alts := [], laidByText := true, laidKinds := [.data, .data, .data, .data, .sentinel, .sentinel, .pinned], laidTests := true, laidLooks := .later }
def EnvBytesCardSaid : Prop := Claim7.holds Tryz.pinned (.plain (OpenSpec.ofChange envBytesSpec)) envBytesCard

/-- THE TIED CARD OF 'mailbaglaw19.EnvBits'. -/
def envBitsCard : Claim7 := { stood := { row := envBitsRow, standIns := [], harness := (true, "419f38ec89f210f9f6db254adfd43384064bf87dc2d7deee0cd606506ed8affc"), looks := true }, kinds := [], alts := [], laidByText := true, laidKinds := [.data, .data, .data, .data, .sentinel, .sentinel, .pinned], laidTests := true, laidLooks := .later }
def EnvBitsCardSaid : Prop := Claim7.holds Tryz.pinned (.plain (OpenSpec.ofChange envBitsSpec)) envBitsCard

/-- THE TIED CARD OF 'mailbaglaw19.EnvDue'. -/
def envDueCard : Claim7 := { stood := { row := envDueRow, standIns := [], harness := (true, "419f38ec89f210f9f6db254adfd43384064bf87dc2d7deee0cd606506ed8affc"), looks := true }, kinds := [], alts := [], laidByText := true, laidKinds := [.data, .data, .data, .data, .sentinel, .sentinel, .pinned], laidTests := true, laidLooks := .later }
def EnvDueCardSaid : Prop := Claim7.holds Tryz.pinned (.plain (OpenSpec.ofChange envDueSpec)) envDueCard

/-- THE SECOND FORM's CARD OF 'mailbaglaw19.EnvBack'. -/
def envBackUptoCard : Claim7 := { stood := { row := envBackUptoRow, standIns := [], harness := (true, "419f38ec89f210f9f6db254adfd43384064bf87dc2d7deee0cd606506ed8affc"), looks := true }, kinds := [], alts := [], laidByText := true, laidKinds := [.data, .data, .data, .data, .sentinel, .sentinel, .pinned], laidTests := true, laidLooks := .later }
def EnvBackUptoCardSaid : Prop := Claim7.holds Tryz.pinned (.plain (OpenSpec.upto envBackSpec)) envBackUptoCard

/-- THE SECOND FORM's CARD OF 'mailbaglaw19.EnvBytes'. -/
def envBytesUptoCard : Claim7 := { stood := { row := envBytesUptoRow, standIns := [], harness := (true, "419f38ec89f210f9f6db254adfd43384064bf87dc2d7deee0cd606506ed8affc"), looks := true }, kinds := [], alts := [], laidByText := true, laidKinds := [.data, .data, .data, .data, .sentinel, .sentinel, .pinned], laidTests := true, laidLooks := .later }
def EnvBytesUptoCardSaid : Prop := Claim7.holds Tryz.pinned (.plain (OpenSpec.upto envBytesSpec)) envBytesUptoCard

/-- THE SECOND FORM's CARD OF 'mailbaglaw19.EnvBits'. -/
def envBitsUptoCard : Claim7 := { stood := { row := envBitsUptoRow, standIns := [], harness := (true, "419f38ec89f210f9f6db254adfd43384064bf87dc2d7deee0cd606506ed8affc"), looks := true }, kinds := [], alts := [], laidByText := true, laidKinds := [.data, .data, .data, .data, .sentinel, .sentinel, .pinned], laidTests := true, laidLooks := .later }
def EnvBitsUptoCardSaid : Prop := Claim7.holds Tryz.pinned (.plain (OpenSpec.upto envBitsSpec)) envBitsUptoCard

/-- THE SECOND FORM's CARD OF 'mailbaglaw19.EnvDue'. -/
def envDueUptoCard : Claim7 := { stood := { row := envDueUptoRow, standIns := [], harness := (true, "419f38ec89f210f9f6db254adfd43384064bf87dc2d7deee0cd606506ed8affc"), looks := true }, kinds := [], alts := [], laidByText := true, laidKinds := [.data, .data, .data, .data, .sentinel, .sentinel, .pinned], laidTests := true, laidLooks := .later }
def EnvDueUptoCardSaid : Prop := Claim7.holds Tryz.pinned (.plain (OpenSpec.upto envDueSpec)) envDueUptoCard
end Rows
end Go.Proofs.YtdigbcafimghdaaGreatDoor
