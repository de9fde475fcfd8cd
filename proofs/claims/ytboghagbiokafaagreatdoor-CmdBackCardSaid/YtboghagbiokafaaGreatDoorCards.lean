/-
  DERIVED. GIVEN WITH THE SEED: THE CARDS: each row of YtboghagbiokafaaGreatDoorRows.lean that lists a variable, with what it lists TIED to the program's text (the seventh form; the later family's looks); each row that meets fmt, with fmt's text TOLD by the authors' own Lean function (tested against real Go, not proved from fmt's source: count such statements apart). THE CARD IS WHAT COUNTS. Prove the row's statement (the work); the ties are given (YtboghagbiokafaaGreatDoorTie.lean); close each card by the builder's one call (the guide's Derived/Test/ToyasCard.lean, 'card_holds'). Laid BY PROGRAM, IN A SANDBOX (cutbox-door.mjs). By AI agents, Wed Nov 11 2026. No macro, syntax, notation, axiom, sorry.
-/
import Derived.Test.YtboghagbiokafaaGreatDoorRows
import GoSem.ClaimSeven
namespace Go.Proofs.YtboghagbiokafaaGreatDoor
namespace Rows

/-- THE TIED CARD OF 'mailbaglaw15.CmdTexts'. -/
def cmdTextsCard : Claim7 := { stood := { row := cmdTextsRow, standIns := [], harness := (true, "72f09d8b2d0cc2d8760a5245c59e15b6dd1cdf1db8d32f9a9e92a5ad6f95d361"), looks := true }, kinds := [], alts := [], laidByText := true, laidKinds := [.data, .data, .data, .data, .sentinel, .sentinel, .pinned], laidTests := true, laidLooks := .later }
def CmdTextsCardSaid : Prop := Claim7.holds Tryz.pinned (.plain (OpenSpec.ofChange cmdTextsSpec)) cmdTextsCard

/-- THE TIED CARD OF 'mailbaglaw15.CmdWords'. -/
def cmdWordsCard : Claim7 := { stood := { row := cmdWordsRow, standIns := [], harness := (true, "72f09d8b2d0cc2d8760a5245c59e15b6dd1cdf1db8d32f9a9e92a5ad6f95d361"), looks := true }, kinds := [], alts := [], laidByText := true, laidKinds := [.data, .data, .data, .data, .sentinel, .sentinel, .pinned], laidTests := true, laidLooks := .later }
def CmdWordsCardSaid : Prop := Claim7.holds Tryz.pinned (.plain (OpenSpec.ofChange cmdWordsSpec)) cmdWordsCard

/-- THE TIED CARD OF 'mailbaglaw15.CmdPaths'. -/
def cmdPathsCard : Claim7 := { stood := { row := cmdPathsRow, standIns := [], harness := (true, "72f09d8b2d0cc2d8760a5245c59e15b6dd1cdf1db8d32f9a9e92a5ad6f95d361"), looks := true }, kinds := [], alts := [], laidByText := true, laidKinds := [.data, .data, .data, .data, .sentinel, .sentinel, .pinned], laidTests := true, laidLooks := .later }
def CmdPathsCardSaid : Prop := Claim7.holds Tryz.pinned (.plain (OpenSpec.ofChange cmdPathsSpec)) cmdPathsCard

/-- THE TIED CARD OF 'mailbaglaw15.CmdBack'. -/
def cmdBackCard : Claim7 := { stood := { row := cmdBackRow, standIns := [], harness := (true, "72f09d8b2d0cc2d8760a5245c59e15b6dd1cdf1db8d32f9a9e92a5ad6f95d361"), looks := true }, kinds := [], alts := [], laidByText := true, laidKinds := [.data, .data, .data, .data, .sentinel, .sentinel, .pinned], laidTests := true, laidLooks := .later }
def CmdBackCardSaid : Prop := Claim7.holds Tryz.pinned (.plain (OpenSpec.ofChange cmdBackSpec)) cmdBackCard

/-- THE SECOND FORM's CARD OF 'mailbaglaw15.CmdTexts'. -/
def cmdTextsUptoCard : Claim7 := { stood := { row := cmdTextsUptoRow, standIns := [], harness := (true, "72f09d8b2d0cc2d8760a5245c59e15b6dd1cdf1db8d32f9a9e92a5ad6f95d361"), looks := true }, kinds := [], alts := [], laidByText := true, laidKinds := [.data, .data, .data, .data, .sentinel, .sentinel, .pinned], laidTests := true, laidLooks := .later }
def CmdTextsUptoCardSaid : Prop := Claim7.holds Tryz.pinned (.plain (OpenSpec.upto cmdTextsSpec)) cmdTextsUptoCard

/-- THE SECOND FORM's CARD OF 'mailbaglaw15.CmdWords'. -/
def cmdWordsUptoCard : Claim7 := { stood := { row := cmdWordsUptoRow, standIns := [], harness := (true, "72f09d8b2d0cc2d8760a5245c59e15b6dd1cdf1db8d32f9a9e92a5ad6f95d361"), looks := true }, kinds := [], alts := [], laidByText := true, laidKinds := [.data, .data, .data, .data, .sentinel, .sentinel, .pinned], laidTests := true, laidLooks := .later }
def CmdWordsUptoCardSaid : Prop := Claim7.holds Tryz.pinned (.plain (OpenSpec.upto cmdWordsSpec)) cmdWordsUptoCard

/-- THE SECOND FORM's CARD OF 'mailbaglaw15.CmdPaths'. -/
def cmdPathsUptoCard : Claim7 := { stood := { row := cmdPathsUptoRow, standIns := [], harness := (true, "72f09d8b2d0cc2d8760a5245c59e15b6dd1cdf1db8d32f9a9e92a5ad6f95d361"), looks := true }, kinds := [], alts := [], laidByText := true, laidKinds := [.data, .data, .data, .data, .sentinel, .sentinel, .pinned], laidTests := true, laidLooks := .later }
def CmdPathsUptoCardSaid : Prop := Claim7.holds Tryz.pinned (.plain (OpenSpec.upto cmdPathsSpec)) cmdPathsUptoCard

/-- THE SECOND FORM's CARD OF 'mailbaglaw15.CmdBack'. -/
def cmdBackUptoCard : Claim7 := { stood := { row := cmdBackUptoRow, standIns := [], harness := (true, "72f09d8b2d0cc2d8760a5245c59e15b6dd1cdf1db8d32f9a9e92a5ad6f95d361"), looks := true }, kinds := [], alts := [], laidByText := true, laidKinds := [.data, .data, .data, .data, .sentinel, .sentinel, .pinned], laidTests := true, laidLooks := .later }
def CmdBackUptoCardSaid : Prop := Claim7.holds Tryz.pinned (.plain (OpenSpec.upto cmdBackSpec)) cmdBackUptoCard
end Rows
end Go.Proofs.YtboghagbiokafaaGreatDoor
