/-
  DERIVED. GIVEN WITH THE SEED: THE CARDS: each row of YtdgfgadmcahnlaaDoorRows.lean that lists a variable, with what it lists TIED to the program's text (the seventh form; the later family's looks); each row that meets fmt, with fmt's text TOLD by the authors' own Lean function (tested against real Go, not proved from fmt's source: count such statements apart). THE CARD IS WHAT COUNTS. Prove the row's statement (the work); the ties are given (YtdgfgadmcahnlaaDoorTie.lean); close each card by the builder's one call (the guide's Derived/Test/ToyasCard.lean, 'card_holds'). Laid BY PROGRAM, IN A SANDBOX (cutbox-door.mjs). By AI agents, Wed Nov 11 2026. No macro, syntax, notation, axiom, sorry.
-/
import Derived.Test.YtdgfgadmcahnlaaDoorRows
import GoSem.ClaimSeven
namespace Go.Proofs.YtdgfgadmcahnlaaDoor
namespace Rows

/-- THE TIED CARD OF 'covalentlaw24.TextClasses'. -/
def textClassesCard : Claim7 := { stood := { row := textClassesRow, standIns := [], harness := (true, "918c8526adb7dc69fd635a149258a45a37fd5b1e5a9400eb10e98352ec4bec3a"), looks := false }, kinds := [], alts := [], laidByText := true, laidKinds := [.data, .pinned], laidTests := true, laidLooks := .later }
def TextClassesCardSaid : Prop := Claim7.holds Tryd.pinned (.plain (OpenSpec.ofChange textClassesSpec)) textClassesCard

/-- THE TIED CARD OF 'covalenttop.TopWalks'. -/
def topWalksCard : Claim7 := { stood := { row := topWalksRow, standIns := [], harness := (true, "918c8526adb7dc69fd635a149258a45a37fd5b1e5a9400eb10e98352ec4bec3a"), looks := false }, kinds := [], alts := [], laidByText := true, laidKinds := [.data, .pinned], laidTests := true, laidLooks := .later }
def TopWalksCardSaid : Prop := Claim7.holds Tryd.pinned (.plain (OpenSpec.ofChange topWalksSpec)) topWalksCard

/-- THE TIED CARD OF 'covalentlaw24.TextCanonical'. -/
def textCanonicalCard : Claim7 := { stood := { row := textCanonicalRow, standIns := [], harness := (true, "918c8526adb7dc69fd635a149258a45a37fd5b1e5a9400eb10e98352ec4bec3a"), looks := false }, kinds := [], alts := [], laidByText := true, laidKinds := [.data, .pinned], laidTests := true, laidLooks := .later }
def TextCanonicalCardSaid : Prop := Claim7.holds Tryd.pinned (.plain (OpenSpec.ofChange textCanonicalSpec)) textCanonicalCard

/-- THE TIED CARD OF 'covalentlaw24.TextEquals'. -/
def textEqualsCard : Claim7 := { stood := { row := textEqualsRow, standIns := [], harness := (true, "918c8526adb7dc69fd635a149258a45a37fd5b1e5a9400eb10e98352ec4bec3a"), looks := false }, kinds := [], alts := [], laidByText := true, laidKinds := [.data, .pinned], laidTests := true, laidLooks := .later }
def TextEqualsCardSaid : Prop := Claim7.holds Tryd.pinned (.plain (OpenSpec.ofChange textEqualsSpec)) textEqualsCard

/-- THE TIED CARD OF 'covalentlaw24.TextCuts'. -/
def textCutsCard : Claim7 := { stood := { row := textCutsRow, standIns := [], harness := (true, "918c8526adb7dc69fd635a149258a45a37fd5b1e5a9400eb10e98352ec4bec3a"), looks := false }, kinds := [], alts := [], laidByText := true, laidKinds := [.data, .pinned], laidTests := true, laidLooks := .later }
def TextCutsCardSaid : Prop := Claim7.holds Tryd.pinned (.plain (OpenSpec.ofChange textCutsSpec)) textCutsCard

/-- THE TIED CARD OF 'covalentlaw24.TextDecodes'. -/
def textDecodesCard : Claim7 := { stood := { row := textDecodesRow, standIns := [], harness := (true, "918c8526adb7dc69fd635a149258a45a37fd5b1e5a9400eb10e98352ec4bec3a"), looks := false }, kinds := [], alts := [], laidByText := true, laidKinds := [.data, .pinned], laidTests := true, laidLooks := .later }
def TextDecodesCardSaid : Prop := Claim7.holds Tryd.pinned (.plain (OpenSpec.ofChange textDecodesSpec)) textDecodesCard

/-- THE TIED CARD OF 'covalentlaw24.TextBounds'. -/
def textBoundsCard : Claim7 := { stood := { row := textBoundsRow, standIns := [], harness := (true, "918c8526adb7dc69fd635a149258a45a37fd5b1e5a9400eb10e98352ec4bec3a"), looks := false }, kinds := [], alts := [], laidByText := true, laidKinds := [.data, .pinned], laidTests := true, laidLooks := .later }
def TextBoundsCardSaid : Prop := Claim7.holds Tryd.pinned (.plain (OpenSpec.ofChange textBoundsSpec)) textBoundsCard

/-- THE TIED CARD OF 'covalenttop.TopSlices'. -/
def topSlicesCard : Claim7 := { stood := { row := topSlicesRow, standIns := [], harness := (true, "918c8526adb7dc69fd635a149258a45a37fd5b1e5a9400eb10e98352ec4bec3a"), looks := false }, kinds := [], alts := [], laidByText := true, laidKinds := [.data, .pinned], laidTests := true, laidLooks := .later }
def TopSlicesCardSaid : Prop := Claim7.holds Tryd.pinned (.plain (OpenSpec.ofChange topSlicesSpec)) topSlicesCard

/-- THE TIED CARD OF 'covalentlaw24.TextOrder'. -/
def textOrderCard : Claim7 := { stood := { row := textOrderRow, standIns := [], harness := (true, "918c8526adb7dc69fd635a149258a45a37fd5b1e5a9400eb10e98352ec4bec3a"), looks := false }, kinds := [], alts := [], laidByText := true, laidKinds := [.data, .pinned], laidTests := true, laidLooks := .later }
def TextOrderCardSaid : Prop := Claim7.holds Tryd.pinned (.plain (OpenSpec.ofChange textOrderSpec)) textOrderCard

/-- THE TIED CARD OF 'covalentlaw24.TextSlices'. -/
def textSlicesCard : Claim7 := { stood := { row := textSlicesRow, standIns := [], harness := (true, "918c8526adb7dc69fd635a149258a45a37fd5b1e5a9400eb10e98352ec4bec3a"), looks := false }, kinds := [], alts := [], laidByText := true, laidKinds := [.data, .pinned], laidTests := true, laidLooks := .later }
def TextSlicesCardSaid : Prop := Claim7.holds Tryd.pinned (.plain (OpenSpec.ofChange textSlicesSpec)) textSlicesCard

/-- THE TIED CARD OF 'covalentlaw24.TextFinds'. -/
def textFindsCard : Claim7 := { stood := { row := textFindsRow, standIns := [], harness := (true, "918c8526adb7dc69fd635a149258a45a37fd5b1e5a9400eb10e98352ec4bec3a"), looks := false }, kinds := [], alts := [], laidByText := true, laidKinds := [.data, .pinned], laidTests := true, laidLooks := .later }
def TextFindsCardSaid : Prop := Claim7.holds Tryd.pinned (.plain (OpenSpec.ofChange textFindsSpec)) textFindsCard

/-- THE TIED CARD OF 'covalentlaw24.TextSteps'. -/
def textStepsCard : Claim7 := { stood := { row := textStepsRow, standIns := [], harness := (true, "918c8526adb7dc69fd635a149258a45a37fd5b1e5a9400eb10e98352ec4bec3a"), looks := false }, kinds := [], alts := [], laidByText := true, laidKinds := [.data, .pinned], laidTests := true, laidLooks := .later }
def TextStepsCardSaid : Prop := Claim7.holds Tryd.pinned (.plain (OpenSpec.ofChange textStepsSpec)) textStepsCard

/-- THE TIED CARD OF 'covalentlaw24.TextEncodes'. -/
def textEncodesCard : Claim7 := { stood := { row := textEncodesRow, standIns := [], harness := (true, "918c8526adb7dc69fd635a149258a45a37fd5b1e5a9400eb10e98352ec4bec3a"), looks := false }, kinds := [], alts := [], laidByText := true, laidKinds := [.data, .pinned], laidTests := true, laidLooks := .later }
def TextEncodesCardSaid : Prop := Claim7.holds Tryd.pinned (.plain (OpenSpec.ofChange textEncodesSpec)) textEncodesCard

/-- THE TIED CARD OF 'covalentlaw24.TextReverses'. -/
def textReversesCard : Claim7 := { stood := { row := textReversesRow, standIns := [], harness := (true, "918c8526adb7dc69fd635a149258a45a37fd5b1e5a9400eb10e98352ec4bec3a"), looks := false }, kinds := [], alts := [], laidByText := true, laidKinds := [.data, .pinned], laidTests := true, laidLooks := .later }
def TextReversesCardSaid : Prop := Claim7.holds Tryd.pinned (.plain (OpenSpec.ofChange textReversesSpec)) textReversesCard

/-- THE TIED CARD OF 'covalentlaw24.TextSplits'. -/
def textSplitsCard : Claim7 := { stood := { row := textSplitsRow, standIns := [], harness := (true, "918c8526adb7dc69fd635a149258a45a37fd5b1e5a9400eb10e98352ec4bec3a"), looks := false }, kinds := [], alts := [], laidByText := true, laidKinds := [.data, .pinned], laidTests := true, laidLooks := .later }
def TextSplitsCardSaid : Prop := Claim7.holds Tryd.pinned (.plain (OpenSpec.ofChange textSplitsSpec)) textSplitsCard

/-- THE TIED CARD OF 'covalentlaw24.TextBack'. -/
def textBackCard : Claim7 := { stood := { row := textBackRow, standIns := [], harness := (true, "918c8526adb7dc69fd635a149258a45a37fd5b1e5a9400eb10e98352ec4bec3a"), looks := false }, kinds := [], alts := [], laidByText := true, laidKinds := [.data, .pinned], laidTests := true, laidLooks := .later }
def TextBackCardSaid : Prop := Claim7.holds Tryd.pinned (.plain (OpenSpec.ofChange textBackSpec)) textBackCard

/-- THE TIED CARD OF 'covalentlaw24.TextParts'. -/
def textPartsCard : Claim7 := { stood := { row := textPartsRow, standIns := [], harness := (true, "918c8526adb7dc69fd635a149258a45a37fd5b1e5a9400eb10e98352ec4bec3a"), looks := false }, kinds := [], alts := [], laidByText := true, laidKinds := [.data, .pinned], laidTests := true, laidLooks := .later }
def TextPartsCardSaid : Prop := Claim7.holds Tryd.pinned (.plain (OpenSpec.ofChange textPartsSpec)) textPartsCard

/-- THE SECOND FORM's CARD OF 'covalentlaw24.TextClasses'. -/
def textClassesUptoCard : Claim7 := { stood := { row := textClassesUptoRow, standIns := [], harness := (true, "918c8526adb7dc69fd635a149258a45a37fd5b1e5a9400eb10e98352ec4bec3a"), looks := false }, kinds := [], alts := [], laidByText := true, laidKinds := [.data, .pinned], laidTests := true, laidLooks := .later }
def TextClassesUptoCardSaid : Prop := Claim7.holds Tryd.pinned (.plain (OpenSpec.upto textClassesSpec)) textClassesUptoCard

/-- THE SECOND FORM's CARD OF 'covalenttop.TopWalks'. -/
def topWalksUptoCard : Claim7 := { stood := { row := topWalksUptoRow, standIns := [], harness := (true, "918c8526adb7dc69fd635a149258a45a37fd5b1e5a9400eb10e98352ec4bec3a"), looks := false }, kinds := [], alts := [], laidByText := true, laidKinds := [.data, .pinned], laidTests := true, laidLooks := .later }
def TopWalksUptoCardSaid : Prop := Claim7.holds Tryd.pinned (.plain (OpenSpec.upto topWalksSpec)) topWalksUptoCard

/-- THE SECOND FORM's CARD OF 'covalentlaw24.TextCanonical'. -/
def textCanonicalUptoCard : Claim7 := { stood := { row := textCanonicalUptoRow, standIns := [], harness := (true, "918c8526adb7dc69fd635a149258a45a37fd5b1e5a9400eb10e98352ec4bec3a"), looks := false }, kinds := [], alts := [], laidByText := true, laidKinds := [.data, .pinned], laidTests := true, laidLooks := .later }
def TextCanonicalUptoCardSaid : Prop := Claim7.holds Tryd.pinned (.plain (OpenSpec.upto textCanonicalSpec)) textCanonicalUptoCard

/-- THE SECOND FORM's CARD OF 'covalentlaw24.TextEquals'. -/
def textEqualsUptoCard : Claim7 := { stood := { row := textEqualsUptoRow, standIns := [], harness := (true, "918c8526adb7dc69fd635a149258a45a37fd5b1e5a9400eb10e98352ec4bec3a"), looks := false }, kinds := [], alts := [], laidByText := true, laidKinds := [.data, .pinned], laidTests := true, laidLooks := .later }
def TextEqualsUptoCardSaid : Prop := Claim7.holds Tryd.pinned (.plain (OpenSpec.upto textEqualsSpec)) textEqualsUptoCard

/-- THE SECOND FORM's CARD OF 'covalentlaw24.TextCuts'. -/
def textCutsUptoCard : Claim7 := { stood := { row := textCutsUptoRow, standIns := [], harness := (true, "918c8526adb7dc69fd635a149258a45a37fd5b1e5a9400eb10e98352ec4bec3a"), looks := false }, kinds := [], alts := [], laidByText := true, laidKinds := [.data, .pinned], laidTests := true, laidLooks := .later }
def TextCutsUptoCardSaid : Prop := Claim7.holds Tryd.pinned (.plain (OpenSpec.upto textCutsSpec)) textCutsUptoCard

/-- THE SECOND FORM's CARD OF 'covalentlaw24.TextDecodes'. -/
def textDecodesUptoCard : Claim7 := { stood := { row := textDecodesUptoRow, standIns := [], harness := (true, "918c8526adb7dc69fd635a149258a45a37fd5b1e5a9400eb10e98352ec4bec3a"), looks := false }, kinds := [], alts := [], laidByText := true, laidKinds := [.data, .pinned], laidTests := true, laidLooks := .later }
def TextDecodesUptoCardSaid : Prop := Claim7.holds Tryd.pinned (.plain (OpenSpec.upto textDecodesSpec)) textDecodesUptoCard

/-- THE SECOND FORM's CARD OF 'covalentlaw24.TextBounds'. -/
def textBoundsUptoCard : Claim7 := { stood := { row := textBoundsUptoRow, standIns := [], harness := (true, "918c8526adb7dc69fd635a149258a45a37fd5b1e5a9400eb10e98352ec4bec3a"), looks := false }, kinds := [], alts := [], laidByText := true, laidKinds := [.data, .pinned], laidTests := true, laidLooks := .later }
def TextBoundsUptoCardSaid : Prop := Claim7.holds Tryd.pinned (.plain (OpenSpec.upto textBoundsSpec)) textBoundsUptoCard

/-- THE SECOND FORM's CARD OF 'covalenttop.TopSlices'. -/
def topSlicesUptoCard : Claim7 := { stood := { row := topSlicesUptoRow, standIns := [], harness := (true, "918c8526adb7dc69fd635a149258a45a37fd5b1e5a9400eb10e98352ec4bec3a"), looks := false }, kinds := [], alts := [], laidByText := true, laidKinds := [.data, .pinned], laidTests := true, laidLooks := .later }
def TopSlicesUptoCardSaid : Prop := Claim7.holds Tryd.pinned (.plain (OpenSpec.upto topSlicesSpec)) topSlicesUptoCard

/-- THE SECOND FORM's CARD OF 'covalentlaw24.TextOrder'. -/
def textOrderUptoCard : Claim7 := { stood := { row := textOrderUptoRow, standIns := [], harness := (true, "918c8526adb7dc69fd635a149258a45a37fd5b1e5a9400eb10e98352ec4bec3a"), looks := false }, kinds := [], alts := [], laidByText := true, laidKinds := [.data, .pinned], laidTests := true, laidLooks := .later }
def TextOrderUptoCardSaid : Prop := Claim7.holds Tryd.pinned (.plain (OpenSpec.upto textOrderSpec)) textOrderUptoCard

/-- THE SECOND FORM's CARD OF 'covalentlaw24.TextSlices'. -/
def textSlicesUptoCard : Claim7 := { stood := { row := textSlicesUptoRow, standIns := [], harness := (true, "918c8526adb7dc69fd635a149258a45a37fd5b1e5a9400eb10e98352ec4bec3a"), looks := false }, kinds := [], alts := [], laidByText := true, laidKinds := [.data, .pinned], laidTests := true, laidLooks := .later }
def TextSlicesUptoCardSaid : Prop := Claim7.holds Tryd.pinned (.plain (OpenSpec.upto textSlicesSpec)) textSlicesUptoCard

/-- THE SECOND FORM's CARD OF 'covalentlaw24.TextFinds'. -/
def textFindsUptoCard : Claim7 := { stood := { row := textFindsUptoRow, standIns := [], harness := (true, "918c8526adb7dc69fd635a149258a45a37fd5b1e5a9400eb10e98352ec4bec3a"), looks := false }, kinds := [], alts := [], laidByText := true, laidKinds := [.data, .pinned], laidTests := true, laidLooks := .later }
def TextFindsUptoCardSaid : Prop := Claim7.holds Tryd.pinned (.plain (OpenSpec.upto textFindsSpec)) textFindsUptoCard

/-- THE SECOND FORM's CARD OF 'covalentlaw24.TextSteps'. -/
def textStepsUptoCard : Claim7 := { stood := { row := textStepsUptoRow, standIns := [], harness := (true, "918c8526adb7dc69fd635a149258a45a37fd5b1e5a9400eb10e98352ec4bec3a"), looks := false }, kinds := [], alts := [], laidByText := true, laidKinds := [.data, .pinned], laidTests := true, laidLooks := .later }
def TextStepsUptoCardSaid : Prop := Claim7.holds Tryd.pinned (.plain (OpenSpec.upto textStepsSpec)) textStepsUptoCard

/-- THE SECOND FORM's CARD OF 'covalentlaw24.TextEncodes'. -/
def textEncodesUptoCard : Claim7 := { stood := { row := textEncodesUptoRow, standIns := [], harness := (true, "918c8526adb7dc69fd635a149258a45a37fd5b1e5a9400eb10e98352ec4bec3a"), looks := false }, kinds := [], alts := [], laidByText := true, laidKinds := [.data, .pinned], laidTests := true, laidLooks := .later }
def TextEncodesUptoCardSaid : Prop := Claim7.holds Tryd.pinned (.plain (OpenSpec.upto textEncodesSpec)) textEncodesUptoCard

/-- THE SECOND FORM's CARD OF 'covalentlaw24.TextReverses'. -/
def textReversesUptoCard : Claim7 := { stood := { row := textReversesUptoRow, standIns := [], harness := (true, "918c8526adb7dc69fd635a149258a45a37fd5b1e5a9400eb10e98352ec4bec3a"), looks := false }, kinds := [], alts := [], laidByText := true, laidKinds := [.data, .pinned], laidTests := true, laidLooks := .later }
def TextReversesUptoCardSaid : Prop := Claim7.holds Tryd.pinned (.plain (OpenSpec.upto textReversesSpec)) textReversesUptoCard

/-- THE SECOND FORM's CARD OF 'covalentlaw24.TextSplits'. -/
def textSplitsUptoCard : Claim7 := { stood := { row := textSplitsUptoRow, standIns := [], harness := (true, "918c8526adb7dc69fd635a149258a45a37fd5b1e5a9400eb10e98352ec4bec3a"), looks := false }, kinds := [], alts := [], laidByText := true, laidKinds := [.data, .pinned], laidTests := true, laidLooks := .later }
def TextSplitsUptoCardSaid : Prop := Claim7.holds Tryd.pinned (.plain (OpenSpec.upto textSplitsSpec)) textSplitsUptoCard

/-- THE SECOND FORM's CARD OF 'covalentlaw24.TextBack'. -/
def textBackUptoCard : Claim7 := { stood := { row := textBackUptoRow, standIns := [], harness := (true, "918c8526adb7dc69fd635a149258a45a37fd5b1e5a9400eb10e98352ec4bec3a"), looks := false }, kinds := [], alts := [], laidByText := true, laidKinds := [.data, .pinned], laidTests := true, laidLooks := .later }
def TextBackUptoCardSaid : Prop := Claim7.holds Tryd.pinned (.plain (OpenSpec.upto textBackSpec)) textBackUptoCard

/-- THE SECOND FORM's CARD OF 'covalentlaw24.TextParts'. -/
def textPartsUptoCard : Claim7 := { stood := { row := textPartsUptoRow, standIns := [], harness := (true, "918c8526adb7dc69fd635a149258a45a37fd5b1e5a9400eb10e98352ec4bec3a"), looks := false }, kinds := [], alts := [], laidByText := true, laidKinds := [.data, .pinned], laidTests := true, laidLooks := .later }
def TextPartsUptoCardSaid : Prop := Claim7.holds Tryd.pinned (.plain (OpenSpec.upto textPartsSpec)) textPartsUptoCard
end Rows
end Go.Proofs.YtdgfgadmcahnlaaDoor
