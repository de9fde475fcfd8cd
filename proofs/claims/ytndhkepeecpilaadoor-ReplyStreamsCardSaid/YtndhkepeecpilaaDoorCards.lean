/-
  DERIVED. GIVEN WITH THE SEED: THE CARDS: each row of YtndhkepeecpilaaDoorRows.lean that lists a variable, with what it lists TIED to the program's text (the seventh form; the later family's looks); each row that meets fmt, with fmt's text TOLD by the authors' own Lean function (tested against real Go, not proved from fmt's source: count such statements apart). THE CARD IS WHAT COUNTS. Prove the row's statement (the work); the ties are given (YtndhkepeecpilaaDoorTie.lean); close each card by the builder's one call (the guide's Derived/Test/ToyasCard.lean, 'card_holds'). Laid BY PROGRAM, IN A SANDBOX (cutbox-door.mjs). By AI agents, Wed Nov 11 2026. No macro, syntax, notation, axiom, sorry.
-/
import Derived.Test.YtndhkepeecpilaaDoorRows
import GoSem.ClaimSeven
namespace Go.Proofs.YtndhkepeecpilaaDoor
namespace Rows

/-- THE TIED CARD OF 'mailbaglaw16.ReplyCodes'. -/
def replyCodesCard : Claim7 := { stood := { row := replyCodesRow, standIns := [], harness := (true, "7b70c22e1c570229f9b0bfa0a404b5b03ce95c224903ae82667ddd546ab61949"), looks := false }, kinds := [], alts := [], laidByText := true, laidKinds := [.data, .data, .data], laidTests := true, laidLooks := .later }
def ReplyCodesCardSaid : Prop := Claim7.holds Tryd.pinned (.plain (OpenSpec.ofChange replyCodesSpec)) replyCodesCard

/-- THE TIED CARD OF 'mailbaglaw16.ReplyStreams'. -/
def replyStreamsCard : Claim7 := { stood := { row := replyStreamsRow, standIns := [], harness := (true, "7b70c22e1c570229f9b0bfa0a404b5b03ce95c224903ae82667ddd546ab61949"), looks := false }, kinds := [], alts := [], laidByText := true, laidKinds := [.data, .data, .data], laidTests := true, laidLooks := .later }
def ReplyStreamsCardSaid : Prop := Claim7.holds Tryd.pinned (.plain (OpenSpec.ofChange replyStreamsSpec)) replyStreamsCard

/-- THE TIED CARD OF 'mailbaglaw16.ReplyBack'. -/
def replyBackCard : Claim7 := { stood := { row := replyBackRow, standIns := [], harness := (true, "7b70c22e1c570229f9b0bfa0a404b5b03ce95c224903ae82667ddd546ab61949"), looks := false }, kinds := [], alts := [], laidByText := true, laidKinds := [.data, .data, .data], laidTests := true, laidLooks := .later }
def ReplyBackCardSaid : Prop := Claim7.holds Tryd.pinned (.plain (OpenSpec.ofChange replyBackSpec)) replyBackCard

/-- THE TIED CARD OF 'mailbaglaw16.ReplyBad'. -/
def replyBadCard : Claim7 := { stood := { row := replyBadRow, standIns := [], harness := (true, "7b70c22e1c570229f9b0bfa0a404b5b03ce95c224903ae82667ddd546ab61949"), looks := false }, kinds := [], alts := [], laidByText := true, laidKinds := [.data, .data, .data], laidTests := true, laidLooks := .later }
def ReplyBadCardSaid : Prop := Claim7.holds Tryd.pinned (.plain (OpenSpec.ofChange replyBadSpec)) replyBadCard

/-- THE TIED CARD OF 'mailbaglaw16.ReplyRows'. -/
def replyRowsCard : Claim7 := { stood := { row := replyRowsRow, standIns := [], harness := (true, "7b70c22e1c570229f9b0bfa0a404b5b03ce95c224903ae82667ddd546ab61949"), looks := false }, kinds := [], alts := [], laidByText := true, laidKinds := [.data, .data, .data], laidTests := true, laidLooks := .later }
def ReplyRowsCardSaid : Prop := Claim7.holds Tryd.pinned (.plain (OpenSpec.ofChange replyRowsSpec)) replyRowsCard

/-- THE SECOND FORM's CARD OF 'mailbaglaw16.ReplyCodes'. -/
def replyCodesUptoCard : Claim7 := { stood := { row := replyCodesUptoRow, standIns := [], harness := (true, "7b70c22e1c570229f9b0bfa0a404b5b03ce95c224903ae82667ddd546ab61949"), looks := false }, kinds := [], alts := [], laidByText := true, laidKinds := [.data, .data, .data], laidTests := true, laidLooks := .later }
def ReplyCodesUptoCardSaid : Prop := Claim7.holds Tryd.pinned (.plain (OpenSpec.upto replyCodesSpec)) replyCodesUptoCard

/-- THE SECOND FORM's CARD OF 'mailbaglaw16.ReplyStreams'. -/
def replyStreamsUptoCard : Claim7 := { stood := { row := replyStreamsUptoRow, standIns := [], harness := (true, "7b70c22e1c570229f9b0bfa0a404b5b03ce95c224903ae82667ddd546ab61949"), looks := false }, kinds := [], alts := [], laidByText := true, laidKinds := [.data, .data, .data], laidTests := true, laidLooks := .later }
def ReplyStreamsUptoCardSaid : Prop := Claim7.holds Tryd.pinned (.plain (OpenSpec.upto replyStreamsSpec)) replyStreamsUptoCard

/-- THE SECOND FORM's CARD OF 'mailbaglaw16.ReplyBack'. -/
def replyBackUptoCard : Claim7 := { stood := { row := replyBackUptoRow, standIns := [], harness := (true, "7b70c22e1c570229f9b0bfa0a404b5b03ce95c224903ae82667ddd546ab61949"), looks := false }, kinds := [], alts := [], laidByText := true, laidKinds := [.data, .data, .data], laidTests := true, laidLooks := .later }
def ReplyBackUptoCardSaid : Prop := Claim7.holds Tryd.pinned (.plain (OpenSpec.upto replyBackSpec)) replyBackUptoCard

/-- THE SECOND FORM's CARD OF 'mailbaglaw16.ReplyBad'. -/
def replyBadUptoCard : Claim7 := { stood := { row := replyBadUptoRow, standIns := [], harness := (true, "7b70c22e1c570229f9b0bfa0a404b5b03ce95c224903ae82667ddd546ab61949"), looks := false }, kinds := [], alts := [], laidByText := true, laidKinds := [.data, .data, .data], laidTests := true, laidLooks := .later }
def ReplyBadUptoCardSaid : Prop := Claim7.holds Tryd.pinned (.plain (OpenSpec.upto replyBadSpec)) replyBadUptoCard

/-- THE SECOND FORM's CARD OF 'mailbaglaw16.ReplyRows'. -/
def replyRowsUptoCard : Claim7 := { stood := { row := replyRowsUptoRow, standIns := [], harness := (true, "7b70c22e1c570229f9b0bfa0a404b5b03ce95c224903ae82667ddd546ab61949"), looks := false }, kinds := [], alts := [], laidByText := true, laidKinds := [.data, .data, .data], laidTests := true, laidLooks := .later }
def ReplyRowsUptoCardSaid : Prop := Claim7.holds Tryd.pinned (.plain (OpenSpec.upto replyRowsSpec)) replyRowsUptoCard
end Rows
end Go.Proofs.YtndhkepeecpilaaDoor
