/-
  DERIVED. GIVEN WITH THE SEED: THE CARDS: each row of YtfnnmecilcnloaaDoorRows.lean that lists a variable, with what it lists TIED to the program's text (the seventh form; the later family's looks); each row that meets fmt, with fmt's text TOLD by the authors' own Lean function (tested against real Go, not proved from fmt's source: count such statements apart). THE CARD IS WHAT COUNTS. Prove the row's statement (the work); the ties are given (YtfnnmecilcnloaaDoorTie.lean); close each card by the builder's one call (the guide's Derived/Test/ToyasCard.lean, 'card_holds'). Laid BY PROGRAM, IN A SANDBOX (cutbox-door.mjs). By AI agents, Wed Nov 11 2026. No macro, syntax, notation, axiom, sorry.
-/
import Derived.Test.YtfnnmecilcnloaaDoorRows
import GoSem.ClaimSeven
namespace Go.Proofs.YtfnnmecilcnloaaDoor
namespace Rows

/-- THE TIED CARD OF 'mailbaglaw18.HeadDates'. -/
def headDatesCard : Claim7 := { stood := { row := headDatesRow, standIns := [], harness := (true, "76771cf6071d451cae0ee6c27603489959241f35179eba8491aa72c5404d6cb4"), looks := true }, kinds := [], alts := [], laidByText := true, laidKinds := [.data, .data, .data], laidTests := true, laidLooks := .later }
def HeadDatesCardSaid : Prop := Claim7.holds Tryd.pinned (.plain (OpenSpec.ofChange headDatesSpec)) headDatesCard

/-- THE TIED CARD OF 'mailbaglaw18.HeadFolds'. -/
def headFoldsCard : Claim7 := { stood := { row := headFoldsRow, standIns := [], harness := (true, "76771cf6071d451cae0ee6c27603489959241f35179eba8491aa72c5404d6cb4"), looks := true }, kinds := [], alts := [], laidByText := true, laidKinds := [.data, .data, .data], laidTests := true, laidLooks := .later }
def HeadFoldsCardSaid : Prop := Claim7.holds Tryd.pinned (.plain (OpenSpec.ofChange headFoldsSpec)) headFoldsCard

/-- THE TIED CARD OF 'mailbaglaw18.HeadTexts'. -/
def headTextsCard : Claim7 := { stood := { row := headTextsRow, standIns := [], harness := (true, "76771cf6071d451cae0ee6c27603489959241f35179eba8491aa72c5404d6cb4"), looks := true }, kinds := [], alts := [], laidByText := true, laidKinds := [.data, .data, .data], laidTests := true, laidLooks := .later }
def HeadTextsCardSaid : Prop := Claim7.holds Tryd.pinned (.plain (OpenSpec.ofChange headTextsSpec)) headTextsCard

/-- THE TIED CARD OF 'mailbaglaw18.HeadJoins'. -/
def headJoinsCard : Claim7 := { stood := { row := headJoinsRow, standIns := [], harness := (true, "76771cf6071d451cae0ee6c27603489959241f35179eba8491aa72c5404d6cb4"), looks := true }, kinds := [], alts := [], laidByText := true, laidKinds := [.data, .data, .data], laidTests := true, laidLooks := .later }
def HeadJoinsCardSaid : Prop := Claim7.holds Tryd.pinned (.plain (OpenSpec.ofChange headJoinsSpec)) headJoinsCard

/-- THE TIED CARD OF 'mailbaglaw14.AddrTexts'. -/
def addrTextsCard : Claim7 := { stood := { row := addrTextsRow, standIns := [], harness := (true, "76771cf6071d451cae0ee6c27603489959241f35179eba8491aa72c5404d6cb4"), looks := true }, kinds := [], alts := [], laidByText := true, laidKinds := [.data, .data, .data, .data, .sentinel, .sentinel, .pinned], laidTests := true, laidLooks := .later }
def AddrTextsCardSaid : Prop := Claim7.holds Tryd.pinned (.plain (OpenSpec.ofChange addrTextsSpec)) addrTextsCard

/-- THE TIED CARD OF 'mailbaglaw14.AddrBack'. -/
def addrBackCard : Claim7 := { stood := { row := addrBackRow, standIns := [], harness := (true, "76771cf6071d451cae0ee6c27603489959241f35179eba8491aa72c5404d6cb4"), looks := true }, kinds := [], alts := [], laidByText := true, laidKinds := [.data, .data, .data, .data, .sentinel, .sentinel, .pinned], laidTests := true, laidLooks := .later }
def AddrBackCardSaid : Prop := Claim7.holds Tryd.pinned (.plain (OpenSpec.ofChange addrBackSpec)) addrBackCard

/-- THE TIED CARD OF 'mailbaglaw14.AddrDomains'. -/
def addrDomainsCard : Claim7 := { stood := { row := addrDomainsRow, standIns := [], harness := (true, "76771cf6071d451cae0ee6c27603489959241f35179eba8491aa72c5404d6cb4"), looks := true }, kinds := [], alts := [], laidByText := true, laidKinds := [.data, .data, .data, .data, .sentinel, .sentinel, .pinned], laidTests := true, laidLooks := .later }
def AddrDomainsCardSaid : Prop := Claim7.holds Tryd.pinned (.plain (OpenSpec.ofChange addrDomainsSpec)) addrDomainsCard

/-- THE TIED CARD OF 'mailbaglaw14.AddrNumbers'. -/
def addrNumbersCard : Claim7 := { stood := { row := addrNumbersRow, standIns := [], harness := (true, "76771cf6071d451cae0ee6c27603489959241f35179eba8491aa72c5404d6cb4"), looks := true }, kinds := [], alts := [], laidByText := true, laidKinds := [.data, .data, .data, .data, .sentinel, .sentinel, .pinned], laidTests := true, laidLooks := .later }
def AddrNumbersCardSaid : Prop := Claim7.holds Tryd.pinned (.plain (OpenSpec.ofChange addrNumbersSpec)) addrNumbersCard

/-- THE TIED CARD OF 'mailbaglaw14.AddrQuotes'. -/
def addrQuotesCard : Claim7 := { stood := { row := addrQuotesRow, standIns := [], harness := (true, "76771cf6071d451cae0ee6c27603489959241f35179eba8491aa72c5404d6cb4"), looks := true }, kinds := [], alts := [], laidByText := true, laidKinds := [.data, .data, .data, .data, .sentinel, .sentinel, .pinned], laidTests := true, laidLooks := .later }
def AddrQuotesCardSaid : Prop := Claim7.holds Tryd.pinned (.plain (OpenSpec.ofChange addrQuotesSpec)) addrQuotesCard

/-- THE TIED CARD OF 'mailbaglaw14.AddrPairs'. -/
def addrPairsCard : Claim7 := { stood := { row := addrPairsRow, standIns := [], harness := (true, "76771cf6071d451cae0ee6c27603489959241f35179eba8491aa72c5404d6cb4"), looks := true }, kinds := [], alts := [], laidByText := true, laidKinds := [.data, .data, .data, .data, .sentinel, .sentinel, .pinned], laidTests := true, laidLooks := .later }
def AddrPairsCardSaid : Prop := Claim7.holds Tryd.pinned (.plain (OpenSpec.ofChange addrPairsSpec)) addrPairsCard

/-- THE TIED CARD OF 'mailbaglaw18.HeadHops'. -/
def headHopsCard : Claim7 := { stood := { row := headHopsRow, standIns := [], harness := (true, "76771cf6071d451cae0ee6c27603489959241f35179eba8491aa72c5404d6cb4"), looks := true }, kinds := [], alts := [], laidByText := true, laidKinds := [.data, .data, .data, .data, .sentinel, .sentinel, .pinned], laidTests := true, laidLooks := .later }
def HeadHopsCardSaid : Prop := Claim7.holds Tryd.pinned (.plain (OpenSpec.ofChange headHopsSpec)) headHopsCard

/-- THE SECOND FORM's CARD OF 'mailbaglaw18.HeadDates'. -/
def headDatesUptoCard : Claim7 := { stood := { row := headDatesUptoRow, standIns := [], harness := (true, "76771cf6071d451cae0ee6c27603489959241f35179eba8491aa72c5404d6cb4"), looks := true }, kinds := [], alts := [], laidByText := true, laidKinds := [.data, .data, .data], laidTests := true, laidLooks := .later }
def HeadDatesUptoCardSaid : Prop := Claim7.holds Tryd.pinned (.plain (OpenSpec.upto headDatesSpec)) headDatesUptoCard

/-- THE SECOND FORM's CARD OF 'mailbaglaw18.HeadFolds'. -/
def headFoldsUptoCard : Claim7 := { stood := { row := headFoldsUptoRow, standIns := [], harness := (true, "76771cf6071d451cae0ee6c27603489959241f35179eba8491aa72c5404d6cb4"), looks := true }, kinds := [], alts := [], laidByText := true, laidKinds := [.data, .data, .data], laidTests := true, laidLooks := .later }
def HeadFoldsUptoCardSaid : Prop := Claim7.holds Tryd.pinned (.plain (OpenSpec.upto headFoldsSpec)) headFoldsUptoCard

/-- THE SECOND FORM's CARD OF 'mailbaglaw18.HeadTexts'. -/
def headTextsUptoCard : Claim7 := { stood := { row := headTextsUptoRow, standIns := [], harness := (true, "76771cf6071d451cae0ee6c27603489959241f35179eba8491aa72c5404d6cb4"), looks := true }, kinds := [], alts := [], laidByText := true, laidKinds := [.data, .data, .data], laidTests := true, laidLooks := .later }
def HeadTextsUptoCardSaid : Prop := Claim7.holds Tryd.pinned (.plain (OpenSpec.upto headTextsSpec)) headTextsUptoCard

/-- THE SECOND FORM's CARD OF 'mailbaglaw18.HeadJoins'. -/
def headJoinsUptoCard : Claim7 := { stood := { row := headJoinsUptoRow, standIns := [], harness := (true, "76771cf6071d451cae0ee6c27603489959241f35179eba8491aa72c5404d6cb4"), looks := true }, kinds := [], alts := [], laidByText := true, laidKinds := [.data, .data, .data], laidTests := true, laidLooks := .later }
def HeadJoinsUptoCardSaid : Prop := Claim7.holds Tryd.pinned (.plain (OpenSpec.upto headJoinsSpec)) headJoinsUptoCard

/-- THE SECOND FORM's CARD OF 'mailbaglaw14.AddrTexts'. -/
def addrTextsUptoCard : Claim7 := { stood := { row := addrTextsUptoRow, standIns := [], harness := (true, "76771cf6071d451cae0ee6c27603489959241f35179eba8491aa72c5404d6cb4"), looks := true }, kinds := [], alts := [], laidByText := true, laidKinds := [.data, .data, .data, .data, .sentinel, .sentinel, .pinned], laidTests := true, laidLooks := .later }
def AddrTextsUptoCardSaid : Prop := Claim7.holds Tryd.pinned (.plain (OpenSpec.upto addrTextsSpec)) addrTextsUptoCard

/-- THE SECOND FORM's CARD OF 'mailbaglaw14.AddrBack'. -/
def addrBackUptoCard : Claim7 := { stood := { row := addrBackUptoRow, standIns := [], harness := (true, "76771cf6071d451cae0ee6c27603489959241f35179eba8491aa72c5404d6cb4"), looks := true }, kinds := [], alts := [], laidByText := true, laidKinds := [.data, .data, .data, .data, .sentinel, .sentinel, .pinned], laidTests := true, laidLooks := .later }
def AddrBackUptoCardSaid : Prop := Claim7.holds Tryd.pinned (.plain (OpenSpec.upto addrBackSpec)) addrBackUptoCard

/-- THE SECOND FORM's CARD OF 'mailbaglaw14.AddrDomains'. -/
def addrDomainsUptoCard : Claim7 := { stood := { row := addrDomainsUptoRow, standIns := [], harness := (true, "76771cf6071d451cae0ee6c27603489959241f35179eba8491aa72c5404d6cb4"), looks := true }, kinds := [], alts := [], laidByText := true, laidKinds := [.data, .data, .data, .data, .sentinel, .sentinel, .pinned], laidTests := true, laidLooks := .later }
def AddrDomainsUptoCardSaid : Prop := Claim7.holds Tryd.pinned (.plain (OpenSpec.upto addrDomainsSpec)) addrDomainsUptoCard

/-- THE SECOND FORM's CARD OF 'mailbaglaw14.AddrNumbers'. -/
def addrNumbersUptoCard : Claim7 := { stood := { row := addrNumbersUptoRow, standIns := [], harness := (true, "76771cf6071d451cae0ee6c27603489959241f35179eba8491aa72c5404d6cb4"), looks := true }, kinds := [], alts := [], laidByText := true, laidKinds := [.data, .data, .data, .data, .sentinel, .sentinel, .pinned], laidTests := true, laidLooks := .later }
def AddrNumbersUptoCardSaid : Prop := Claim7.holds Tryd.pinned (.plain (OpenSpec.upto addrNumbersSpec)) addrNumbersUptoCard

/-- THE SECOND FORM's CARD OF 'mailbaglaw14.AddrQuotes'. -/
def addrQuotesUptoCard : Claim7 := { stood := { row := addrQuotesUptoRow, standIns := [], harness := (true, "76771cf6071d451cae0ee6c27603489959241f35179eba8491aa72c5404d6cb4"), looks := true }, kinds := [], alts := [], laidByText := true, laidKinds := [.data, .data, .data, .data, .sentinel, .sentinel, .pinned], laidTests := true, laidLooks := .later }
def AddrQuotesUptoCardSaid : Prop := Claim7.holds Tryd.pinned (.plain (OpenSpec.upto addrQuotesSpec)) addrQuotesUptoCard

/-- THE SECOND FORM's CARD OF 'mailbaglaw14.AddrPairs'. -/
def addrPairsUptoCard : Claim7 := { stood := { row := addrPairsUptoRow, standIns := [], harness := (true, "76771cf6071d451cae0ee6c27603489959241f35179eba8491aa72c5404d6cb4"), looks := true }, kinds := [], alts := [], laidByText := true, laidKinds := [.data, .data, .data, .data, .sentinel, .sentinel, .pinned], laidTests := true, laidLooks := .later }
def AddrPairsUptoCardSaid : Prop := Claim7.holds Tryd.pinned (.plain (OpenSpec.upto addrPairsSpec)) addrPairsUptoCard

/-- THE SECOND FORM's CARD OF 'mailbaglaw18.HeadHops'. -/
def headHopsUptoCard : Claim7 := { stood := { row := headHopsUptoRow, standIns := [], harness := (true, "76771cf6071d451cae0ee6c27603489959241f35179eba8491aa72c5404d6cb4"), looks := true }, kinds := [], alts := [], laidByText := true, laidKinds := [.data, .data, .data, .data, .sentinel, .sentinel, .pinned], laidTests := true, laidLooks := .later }
def HeadHopsUptoCardSaid : Prop := Claim7.holds Tryd.pinned (.plain (OpenSpec.upto headHopsSpec)) headHopsUptoCard
end Rows
end Go.Proofs.YtfnnmecilcnloaaDoor
