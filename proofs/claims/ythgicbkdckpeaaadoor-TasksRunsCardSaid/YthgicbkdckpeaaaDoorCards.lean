/-
  DERIVED. GIVEN WITH THE SEED: THE CARDS: each row of YthgicbkdckpeaaaDoorRows.lean that lists a variable, with what it lists TIED to the program's text (the seventh form; the later family's looks); each row that meets fmt, with fmt's text TOLD by the authors' own Lean function (tested against real Go, not proved from fmt's source: count such statements apart). THE CARD IS WHAT COUNTS. Prove the row's statement (the work); the ties are given (YthgicbkdckpeaaaDoorTie.lean); close each card by the builder's one call (the guide's Derived/Test/ToyasCard.lean, 'card_holds'). Laid BY PROGRAM, IN A SANDBOX (cutbox-door.mjs). By AI agents, Wed Nov 11 2026. No macro, syntax, notation, axiom, sorry.
-/
import Derived.Test.YthgicbkdckpeaaaDoorRows
import GoSem.ClaimSeven
namespace Go.Proofs.YthgicbkdckpeaaaDoor
namespace Rows

/-- THE TIED CARD OF 'covalenttop.TopCancels'. -/
def topCancelsCard : Claim7 := { stood := { row := topCancelsRow, standIns := [], harness := (true, "d24e71a94bbaff1933c4a0225c314f8845cce8785f94d6d49573fd2bc23c3c00"), looks := false }, kinds := [], alts := [], laidByText := true, laidKinds := [.data, .data, .data], laidTests := true, laidLooks := .later }
def TopCancelsCardSaid : Prop := Claim7.holds Tryd.pinned (.plain (OpenSpec.ofChange topCancelsSpec)) topCancelsCard

/-- THE TIED CARD OF 'covalentlaw23.TasksZeros'. -/
def tasksZerosCard : Claim7 := { stood := { row := tasksZerosRow, standIns := [], harness := (true, "d24e71a94bbaff1933c4a0225c314f8845cce8785f94d6d49573fd2bc23c3c00"), looks := false }, kinds := [], alts := [], laidByText := true, laidKinds := [.data, .data, .data], laidTests := true, laidLooks := .later }
def TasksZerosCardSaid : Prop := Claim7.holds Tryd.pinned (.plain (OpenSpec.ofChange tasksZerosSpec)) tasksZerosCard

/-- THE TIED CARD OF 'covalentlaw23.TasksOrders'. -/
def tasksOrdersCard : Claim7 := { stood := { row := tasksOrdersRow, standIns := [], harness := (true, "d24e71a94bbaff1933c4a0225c314f8845cce8785f94d6d49573fd2bc23c3c00"), looks := false }, kinds := [], alts := [], laidByText := true, laidKinds := [.data, .data, .data], laidTests := true, laidLooks := .later }
def TasksOrdersCardSaid : Prop := Claim7.holds Tryd.pinned (.plain (OpenSpec.ofChange tasksOrdersSpec)) tasksOrdersCard

/-- THE TIED CARD OF 'covalentlaw23.TasksTree'. -/
def tasksTreeCard : Claim7 := { stood := { row := tasksTreeRow, standIns := [], harness := (true, "d24e71a94bbaff1933c4a0225c314f8845cce8785f94d6d49573fd2bc23c3c00"), looks := false }, kinds := [], alts := [], laidByText := true, laidKinds := [.data, .data, .data], laidTests := true, laidLooks := .later }
def TasksTreeCardSaid : Prop := Claim7.holds Tryd.pinned (.plain (OpenSpec.ofChange tasksTreeSpec)) tasksTreeCard

/-- THE TIED CARD OF 'covalentlaw23.TasksSame'. -/
def tasksSameCard : Claim7 := { stood := { row := tasksSameRow, standIns := [], harness := (true, "d24e71a94bbaff1933c4a0225c314f8845cce8785f94d6d49573fd2bc23c3c00"), looks := false }, kinds := [], alts := [], laidByText := true, laidKinds := [.data, .data, .data], laidTests := true, laidLooks := .later }
def TasksSameCardSaid : Prop := Claim7.holds Tryd.pinned (.plain (OpenSpec.ofChange tasksSameSpec)) tasksSameCard

/-- THE TIED CARD OF 'covalentlaw23.TasksEnds'. -/
def tasksEndsCard : Claim7 := { stood := { row := tasksEndsRow, standIns := [], harness := (true, "d24e71a94bbaff1933c4a0225c314f8845cce8785f94d6d49573fd2bc23c3c00"), looks := false }, kinds := [], alts := [], laidByText := true, laidKinds := [.data, .data, .data], laidTests := true, laidLooks := .later }
def TasksEndsCardSaid : Prop := Claim7.holds Tryd.pinned (.plain (OpenSpec.ofChange tasksEndsSpec)) tasksEndsCard

/-- THE TIED CARD OF 'covalentlaw23.TasksRuns'. -/
def tasksRunsCard : Claim7 := { stood := { row := tasksRunsRow, standIns := [], harness := (true, "d24e71a94bbaff1933c4a0225c314f8845cce8785f94d6d49573fd2bc23c3c00"), looks := false }, kinds := [], alts := [], laidByText := true, laidKinds := [.data, .data, .data], laidTests := true, laidLooks := .later }
def TasksRunsCardSaid : Prop := Claim7.holds Tryd.pinned (.plain (OpenSpec.ofChange tasksRunsSpec)) tasksRunsCard

/-- THE TIED CARD OF 'covalentlaw23.TasksRaces'. -/
def tasksRacesCard : Claim7 := { stood := { row := tasksRacesRow, standIns := [], harness := (true, "d24e71a94bbaff1933c4a0225c314f8845cce8785f94d6d49573fd2bc23c3c00"), looks := false }, kinds := [], alts := [], laidByText := true, laidKinds := [.data, .data, .data], laidTests := true, laidLooks := .later }
def TasksRacesCardSaid : Prop := Claim7.holds Tryd.pinned (.plain (OpenSpec.ofChange tasksRacesSpec)) tasksRacesCard

/-- THE TIED CARD OF 'covalentlaw23.TasksSafe'. -/
def tasksSafeCard : Claim7 := { stood := { row := tasksSafeRow, standIns := [], harness := (true, "d24e71a94bbaff1933c4a0225c314f8845cce8785f94d6d49573fd2bc23c3c00"), looks := false }, kinds := [], alts := [], laidByText := true, laidKinds := [.data, .data, .data], laidTests := true, laidLooks := .later }
def TasksSafeCardSaid : Prop := Claim7.holds Tryd.pinned (.plain (OpenSpec.ofChange tasksSafeSpec)) tasksSafeCard

/-- THE TIED CARD OF 'covalenttop.TopChain'. -/
def topChainCard : Claim7 := { stood := { row := topChainRow, standIns := [], harness := (true, "d24e71a94bbaff1933c4a0225c314f8845cce8785f94d6d49573fd2bc23c3c00"), looks := false }, kinds := [], alts := [], laidByText := true, laidKinds := [.data, .data, .data], laidTests := true, laidLooks := .later }
def TopChainCardSaid : Prop := Claim7.holds Tryd.pinned (.plain (OpenSpec.ofChange topChainSpec)) topChainCard

/-- THE TIED CARD OF 'covalenttop.TopOrdered'. -/
def topOrderedCard : Claim7 := { stood := { row := topOrderedRow, standIns := [], harness := (true, "d24e71a94bbaff1933c4a0225c314f8845cce8785f94d6d49573fd2bc23c3c00"), looks := false }, kinds := [], alts := [], laidByText := true, laidKinds := [.data, .data, .data], laidTests := true, laidLooks := .later }
def TopOrderedCardSaid : Prop := Claim7.holds Tryd.pinned (.plain (OpenSpec.ofChange topOrderedSpec)) topOrderedCard

/-- THE SECOND FORM's CARD OF 'covalenttop.TopCancels'. -/
def topCancelsUptoCard : Claim7 := { stood := { row := topCancelsUptoRow, standIns := [], harness := (true, "d24e71a94bbaff1933c4a0225c314f8845cce8785f94d6d49573fd2bc23c3c00"), looks := false }, kinds := [], alts := [], laidByText := true, laidKinds := [.data, .data, .data], laidTests := true, laidLooks := .later }
def TopCancelsUptoCardSaid : Prop := Claim7.holds Tryd.pinned (.plain (OpenSpec.upto topCancelsSpec)) topCancelsUptoCard

/-- THE SECOND FORM's CARD OF 'covalentlaw23.TasksZeros'. -/
def tasksZerosUptoCard : Claim7 := { stood := { row := tasksZerosUptoRow, standIns := [], harness := (true, "d24e71a94bbaff1933c4a0225c314f8845cce8785f94d6d49573fd2bc23c3c00"), looks := false }, kinds := [], alts := [], laidByText := true, laidKinds := [.data, .data, .data], laidTests := true, laidLooks := .later }
def TasksZerosUptoCardSaid : Prop := Claim7.holds Tryd.pinned (.plain (OpenSpec.upto tasksZerosSpec)) tasksZerosUptoCard

/-- THE SECOND FORM's CARD OF 'covalentlaw23.TasksOrders'. -/
def tasksOrdersUptoCard : Claim7 := { stood := { row := tasksOrdersUptoRow, standIns := [], harness := (true, "d24e71a94bbaff1933c4a0225c314f8845cce8785f94d6d49573fd2bc23c3c00"), looks := false }, kinds := [], alts := [], laidByText := true, laidKinds := [.data, .data, .data], laidTests := true, laidLooks := .later }
def TasksOrdersUptoCardSaid : Prop := Claim7.holds Tryd.pinned (.plain (OpenSpec.upto tasksOrdersSpec)) tasksOrdersUptoCard

/-- THE SECOND FORM's CARD OF 'covalentlaw23.TasksTree'. -/
def tasksTreeUptoCard : Claim7 := { stood := { row := tasksTreeUptoRow, standIns := [], harness := (true, "d24e71a94bbaff1933c4a0225c314f8845cce8785f94d6d49573fd2bc23c3c00"), looks := false }, kinds := [], alts := [], laidByText := true, laidKinds := [.data, .data, .data], laidTests := true, laidLooks := .later }
def TasksTreeUptoCardSaid : Prop := Claim7.holds Tryd.pinned (.plain (OpenSpec.upto tasksTreeSpec)) tasksTreeUptoCard

/-- THE SECOND FORM's CARD OF 'covalentlaw23.TasksSame'. -/
def tasksSameUptoCard : Claim7 := { stood := { row := tasksSameUptoRow, standIns := [], harness := (true, "d24e71a94bbaff1933c4a0225c314f8845cce8785f94d6d49573fd2bc23c3c00"), looks := false }, kinds := [], alts := [], laidByText := true, laidKinds := [.data, .data, .data], laidTests := true, laidLooks := .later }
def TasksSameUptoCardSaid : Prop := Claim7.holds Tryd.pinned (.plain (OpenSpec.upto tasksSameSpec)) tasksSameUptoCard

/-- THE SECOND FORM's CARD OF 'covalentlaw23.TasksEnds'. -/
def tasksEndsUptoCard : Claim7 := { stood := { row := tasksEndsUptoRow, standIns := [], harness := (true, "d24e71a94bbaff1933c4a0225c314f8845cce8785f94d6d49573fd2bc23c3c00"), looks := false }, kinds := [], alts := [], laidByText := true, laidKinds := [.data, .data, .data], laidTests := true, laidLooks := .later }
def TasksEndsUptoCardSaid : Prop := Claim7.holds Tryd.pinned (.plain (OpenSpec.upto tasksEndsSpec)) tasksEndsUptoCard

/-- THE SECOND FORM's CARD OF 'covalentlaw23.TasksRuns'. -/
def tasksRunsUptoCard : Claim7 := { stood := { row := tasksRunsUptoRow, standIns := [], harness := (true, "d24e71a94bbaff1933c4a0225c314f8845cce8785f94d6d49573fd2bc23c3c00"), looks := false }, kinds := [], alts := [], laidByText := true, laidKinds := [.data, .data, .data], laidTests := true, laidLooks := .later }
def TasksRunsUptoCardSaid : Prop := Claim7.holds Tryd.pinned (.plain (OpenSpec.upto tasksRunsSpec)) tasksRunsUptoCard

/-- THE SECOND FORM's CARD OF 'covalentlaw23.TasksRaces'. -/
def tasksRacesUptoCard : Claim7 := { stood := { row := tasksRacesUptoRow, standIns := [], harness := (true, "d24e71a94bbaff1933c4a0225c314f8845cce8785f94d6d49573fd2bc23c3c00"), looks := false }, kinds := [], alts := [], laidByText := true, laidKinds := [.data, .data, .data], laidTests := true, laidLooks := .later }
def TasksRacesUptoCardSaid : Prop := Claim7.holds Tryd.pinned (.plain (OpenSpec.upto tasksRacesSpec)) tasksRacesUptoCard

/-- THE SECOND FORM's CARD OF 'covalentlaw23.TasksSafe'. -/
def tasksSafeUptoCard : Claim7 := { stood := { row := tasksSafeUptoRow, standIns := [], harness := (true, "d24e71a94bbaff1933c4a0225c314f8845cce8785f94d6d49573fd2bc23c3c00"), looks := false }, kinds := [], alts := [], laidByText := true, laidKinds := [.data, .data, .data], laidTests := true, laidLooks := .later }
def TasksSafeUptoCardSaid : Prop := Claim7.holds Tryd.pinned (.plain (OpenSpec.upto tasksSafeSpec)) tasksSafeUptoCard

/-- THE SECOND FORM's CARD OF 'covalenttop.TopChain'. -/
def topChainUptoCard : Claim7 := { stood := { row := topChainUptoRow, standIns := [], harness := (true, "d24e71a94bbaff1933c4a0225c314f8845cce8785f94d6d49573fd2bc23c3c00"), looks := false }, kinds := [], alts := [], laidByText := true, laidKinds := [.data, .data, .data], laidTests := true, laidLooks := .later }
def TopChainUptoCardSaid : Prop := Claim7.holds Tryd.pinned (.plain (OpenSpec.upto topChainSpec)) topChainUptoCard

/-- THE SECOND FORM's CARD OF 'covalenttop.TopOrdered'. -/
def topOrderedUptoCard : Claim7 := { stood := { row := topOrderedUptoRow, standIns := [], harness := (true, "d24e71a94bbaff1933c4a0225c314f8845cce8785f94d6d49573fd2bc23c3c00"), looks := false }, kinds := [], alts := [], laidByText := true, laidKinds := [.data, .data, .data], laidTests := true, laidLooks := .later }
def TopOrderedUptoCardSaid : Prop := Claim7.holds Tryd.pinned (.plain (OpenSpec.upto topOrderedSpec)) topOrderedUptoCard
end Rows
end Go.Proofs.YthgicbkdckpeaaaDoor
