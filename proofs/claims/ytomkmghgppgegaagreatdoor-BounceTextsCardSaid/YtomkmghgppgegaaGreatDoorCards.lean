/-
  DERIVED. GIVEN WITH THE SEED: THE CARDS: each row of YtomkmghgppgegaaGreatDoorRows.lean that lists a variable, with what it lists TIED to the program's text (the seventh form; the later family's looks); each row that meets fmt, with fmt's text TOLD by the authors' own Lean function (tested against real Go, not proved from fmt's source: count such statements apart). THE CARD IS WHAT COUNTS. Prove the row's statement (the work); the ties are given (YtomkmghgppgegaaGreatDoorTie.lean); close each card by the builder's one call (the guide's Derived/Test/ToyasCard.lean, 'card_holds'). Laid BY PROGRAM, IN A SANDBOX (cutbox-door.mjs). By AI agents, Wed Nov 11 2026. No macro, syntax, notation, axiom, sorry.
-/
import Derived.Test.YtomkmghgppgegaaGreatDoorRows
import GoSem.ClaimSeven
namespace Go.Proofs.YtomkmghgppgegaaGreatDoor
namespace Rows

/-- THE TIED CARD OF 'mailbaglaw25.BounceTexts'. -/
def bounceTextsCard : Claim7 := { stood := { row := bounceTextsRow, standIns := [], harness := (true, "116cb81288783723d878180f4bd9f1a1208fe07f384639a4f4f96e1d44d265d1"), looks := true }, kinds := [], alts := [], laidByText := true, laidKinds := [.data, .data, .data, .data, .sentinel, .sentinel, .pinned], laidTests := true, laidLooks := .later }
def BounceTextsCardSaid : Prop := Claim7.holds Tryz.pinned (.plain (OpenSpec.ofChange bounceTextsSpec)) bounceTextsCard

/-- THE TIED CARD OF 'mailbaglaw25.BounceFields'. -/
def bounceFieldsCard : Claim7 := { stood := { row := bounceFieldsRow, standIns := [], harness := (true, "116cb81288783723d878180f4bd9f1a1208fe07f384639a4f4f96e1d44d265d1"), looks := true }, kinds := [], alts := [], laidByText := true, laidKinds := [.data, .data, .data, .data, .sentinel, .sentinel, .pinned], laidTests := true, laidLooks := .later }
def BounceFieldsCardSaid : Prop := Claim7.holds Tryz.pinned (.plain (OpenSpec.ofChange bounceFieldsSpec)) bounceFieldsCard

/-- THE TIED CARD OF 'mailbaglaw25.BounceNone'. -/
def bounceNoneCard : Claim7 := { stood := { row := bounceNoneRow, standIns := [], harness := (true, "116cb81288783723d878180f4bd9f1a1208fe07f384639a4f4f96e1d44d265d1"), looks := true }, kinds := [], alts := [], laidByText := true, laidKinds := [.data, .data, .data, .data, .sentinel, .sentinel, .pinned], laidTests := true, laidLooks := .later }
def BounceNoneCardSaid : Prop := Claim7.holds Tryz.pinned (.plain (OpenSpec.ofChange bounceNoneSpec)) bounceNoneCard

/-- THE TIED CARD OF 'mailbaglaw25.BounceBuilds'. -/
def bounceBuildsCard : Claim7 := { stood := { row := bounceBuildsRow, standIns := [], harness := (true, "116cb81288783723d878180f4bd9f1a1208fe07f384639a4f4f96e1d44d265d1"), looks := true }, kinds := [], alts := [], laidByText := true, laidKinds := [.data, .data, .data, .data, .sentinel, .sentinel, .pinned], laidTests := true, laidLooks := .later }
def BounceBuildsCardSaid : Prop := Claim7.holds Tryz.pinned (.plain (OpenSpec.ofChange bounceBuildsSpec)) bounceBuildsCard

/-- THE TIED CARD OF 'mailbaglaw25.BounceHead'. -/
def bounceHeadCard : Claim7 := { stood := { row := bounceHeadRow, standIns := [], harness := (true, "116cb81288783723d878180f4bd9f1a1208fe07f384639a4f4f96e1d44d265d1"), looks := true }, kinds := [], alts := [], laidByText := true, laidKinds := [.data, .data, .data, .data, .sentinel, .sentinel, .pinned], laidTests := true, laidLooks := .later }
def BounceHeadCardSaid : Prop := Claim7.holds Tryz.pinned (.plain (OpenSpec.ofChange bounceHeadSpec)) bounceHeadCard

/-- THE SECOND FORM's CARD OF 'mailbaglaw25.BounceTexts'. -/
def bounceTextsUptoCard : Claim7 := { stood := { row := bounceTextsUptoRow, standIns := [], harness := (true, "116cb81288783723d878180f4bd9f1a1208fe07f384639a4f4f96e1d44d265d1"), looks := true }, kinds := [], alts := [], laidByText := true, laidKinds := [.data, .data, .data, .data, .sentinel, .sentinel, .pinned], laidTests := true, laidLooks := .later }
def BounceTextsUptoCardSaid : Prop := Claim7.holds Tryz.pinned (.plain (OpenSpec.upto bounceTextsSpec)) bounceTextsUptoCard

/-- THE SECOND FORM's CARD OF 'mailbaglaw25.BounceFields'. -/
def bounceFieldsUptoCard : Claim7 := { stood := { row := bounceFieldsUptoRow, standIns := [], harness := (true, "116cb81288783723d878180f4bd9f1a1208fe07f384639a4f4f96e1d44d265d1"), looks := true }, kinds := [], alts := [], laidByText := true, laidKinds := [.data, .data, .data, .data, .sentinel, .sentinel, .pinned], laidTests := true, laidLooks := .later }
def BounceFieldsUptoCardSaid : Prop := Claim7.holds Tryz.pinned (.plain (OpenSpec.upto bounceFieldsSpec)) bounceFieldsUptoCard

/-- THE SECOND FORM's CARD OF 'mailbaglaw25.BounceNone'. -/
def bounceNoneUptoCard : Claim7 := { stood := { row := bounceNoneUptoRow, standIns := [], harness := (true, "116cb81288783723d878180f4bd9f1a1208fe07f384639a4f4f96e1d44d265d1"), looks := true }, kinds := [], alts := [], laidByText := true, laidKinds := [.data, .data, .data, .data, .sentinel, .sentinel, .pinned], laidTests := true, laidLooks := .later }
def BounceNoneUptoCardSaid : Prop := Claim7.holds Tryz.pinned (.plain (OpenSpec.upto bounceNoneSpec)) bounceNoneUptoCard

/-- THE SECOND FORM's CARD OF 'mailbaglaw25.BounceBuilds'. -/
def bounceBuildsUptoCard : Claim7 := { stood := { row := bounceBuildsUptoRow, standIns := [], harness := (true, "116cb81288783723d878180f4bd9f1a1208fe07f384639a4f4f96e1d44d265d1"), looks := true }, kinds := [], alts := [], laidByText := true, laidKinds := [.data, .data, .data, .data, .sentinel, .sentinel, .pinned], laidTests := true, laidLooks := .later }
def BounceBuildsUptoCardSaid : Prop := Claim7.holds Tryz.pinned (.plain (OpenSpec.upto bounceBuildsSpec)) bounceBuildsUptoCard

/-- THE SECOND FORM's CARD OF 'mailbaglaw25.BounceHead'. -/
def bounceHeadUptoCard : Claim7 := { stood := { row := bounceHeadUptoRow, standIns := [], harness := (true, "116cb81288783723d878180f4bd9f1a1208fe07f384639a4f4f96e1d44d265d1"), looks := true }, kinds := [], alts := [], laidByText := true, laidKinds := [.data, .data, .data, .data, .sentinel, .sentinel, .pinned], laidTests := true, laidLooks := .later }
def BounceHeadUptoCardSaid : Prop := Claim7.holds Tryz.pinned (.plain (OpenSpec.upto bounceHeadSpec)) bounceHeadUptoCard
end Rows
end Go.Proofs.YtomkmghgppgegaaGreatDoor
