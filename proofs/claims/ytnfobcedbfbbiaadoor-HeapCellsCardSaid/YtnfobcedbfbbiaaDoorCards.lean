/-
  DERIVED. GIVEN WITH THE SEED: THE CARDS: each row of YtnfobcedbfbbiaaDoorRows.lean that lists a variable, with what it lists TIED to the program's text (the seventh form; the later family's looks); each row that meets fmt, with fmt's text TOLD by the authors' own Lean function (tested against real Go, not proved from fmt's source: count such statements apart). THE CARD IS WHAT COUNTS. Prove the row's statement (the work); the ties are given (YtnfobcedbfbbiaaDoorTie.lean); close each card by the builder's one call (the guide's Derived/Test/ToyasCard.lean, 'card_holds'). Laid BY PROGRAM, IN A SANDBOX (cutbox-door.mjs). By AI agents, Wed Nov 11 2026. No macro, syntax, notation, axiom, sorry.
-/
import Derived.Test.YtnfobcedbfbbiaaDoorRows
import GoSem.ClaimSeven
namespace Go.Proofs.YtnfobcedbfbbiaaDoor
namespace Rows

/-- THE TIED CARD OF 'pennantlaw08.HeapIndexes'. -/
def heapIndexesCard : Claim7 := { stood := { row := heapIndexesRow, standIns := [], harness := (true, "878cc77b6fbd5d91417f4bce3f6e037e942c9d4f80cf76894171d73d6fbdef65"), looks := false }, kinds := [], alts := [], laidByText := true, laidKinds := [.data, .data, .data, .data, .pinned], laidTests := true, laidLooks := .later }
def HeapIndexesCardSaid : Prop := Claim7.holds Tryd.pinned (.plain (OpenSpec.ofChange heapIndexesSpec)) heapIndexesCard

/-- THE TIED CARD OF 'pennantlaw08.HeapArrays'. -/
def heapArraysCard : Claim7 := { stood := { row := heapArraysRow, standIns := [], harness := (true, "878cc77b6fbd5d91417f4bce3f6e037e942c9d4f80cf76894171d73d6fbdef65"), looks := false }, kinds := [], alts := [], laidByText := true, laidKinds := [.data, .data, .data, .data, .pinned], laidTests := true, laidLooks := .later }
def HeapArraysCardSaid : Prop := Claim7.holds Tryd.pinned (.plain (OpenSpec.ofChange heapArraysSpec)) heapArraysCard

/-- THE TIED CARD OF 'pennantlaw08.HeapShadows'. -/
def heapShadowsCard : Claim7 := { stood := { row := heapShadowsRow, standIns := [], harness := (true, "878cc77b6fbd5d91417f4bce3f6e037e942c9d4f80cf76894171d73d6fbdef65"), looks := false }, kinds := [], alts := [], laidByText := true, laidKinds := [.data, .data, .data, .data, .pinned], laidTests := true, laidLooks := .later }
def HeapShadowsCardSaid : Prop := Claim7.holds Tryd.pinned (.plain (OpenSpec.ofChange heapShadowsSpec)) heapShadowsCard

/-- THE TIED CARD OF 'pennantlaw08.HeapKeeps'. -/
def heapKeepsCard : Claim7 := { stood := { row := heapKeepsRow, standIns := [], harness := (true, "878cc77b6fbd5d91417f4bce3f6e037e942c9d4f80cf76894171d73d6fbdef65"), looks := false }, kinds := [], alts := [], laidByText := true, laidKinds := [.data, .data, .data, .data, .pinned], laidTests := true, laidLooks := .later }
def HeapKeepsCardSaid : Prop := Claim7.holds Tryd.pinned (.plain (OpenSpec.ofChange heapKeepsSpec)) heapKeepsCard

/-- THE TIED CARD OF 'pennantlaw08.HeapCells'. -/
def heapCellsCard : Claim7 := { stood := { row := heapCellsRow, standIns := [], harness := (true, "878cc77b6fbd5d91417f4bce3f6e037e942c9d4f80cf76894171d73d6fbdef65"), looks := false }, kinds := [], alts := [], laidByText := true, laidKinds := [.data, .data, .data, .data, .pinned], laidTests := true, laidLooks := .later }
def HeapCellsCardSaid : Prop := Claim7.holds Tryd.pinned (.plain (OpenSpec.ofChange heapCellsSpec)) heapCellsCard

/-- THE SECOND FORM's CARD OF 'pennantlaw08.HeapIndexes'. -/
def heapIndexesUptoCard : Claim7 := { stood := { row := heapIndexesUptoRow, standIns := [], harness := (true, "878cc77b6fbd5d91417f4bce3f6e037e942c9d4f80cf76894171d73d6fbdef65"), looks := false }, kinds := [], alts := [], laidByText := true, laidKinds := [.data, .data, .data, .data, .pinned], laidTests := true, laidLooks := .later }
def HeapIndexesUptoCardSaid : Prop := Claim7.holds Tryd.pinned (.plain (OpenSpec.upto heapIndexesSpec)) heapIndexesUptoCard

/-- THE SECOND FORM's CARD OF 'pennantlaw08.HeapArrays'. -/
def heapArraysUptoCard : Claim7 := { stood := { row := heapArraysUptoRow, standIns := [], harness := (true, "878cc77b6fbd5d91417f4bce3f6e037e942c9d4f80cf76894171d73d6fbdef65"), looks := false }, kinds := [], alts := [], laidByText := true, laidKinds := [.data, .data, .data, .data, .pinned], laidTests := true, laidLooks := .later }
def HeapArraysUptoCardSaid : Prop := Claim7.holds Tryd.pinned (.plain (OpenSpec.upto heapArraysSpec)) heapArraysUptoCard

/-- THE SECOND FORM's CARD OF 'pennantlaw08.HeapShadows'. -/
def heapShadowsUptoCard : Claim7 := { stood := { row := heapShadowsUptoRow, standIns := [], harness := (true, "878cc77b6fbd5d91417f4bce3f6e037e942c9d4f80cf76894171d73d6fbdef65"), looks := false }, kinds := [], alts := [], laidByText := true, laidKinds := [.data, .data, .data, .data, .pinned], laidTests := true, laidLooks := .later }
def HeapShadowsUptoCardSaid : Prop := Claim7.holds Tryd.pinned (.plain (OpenSpec.upto heapShadowsSpec)) heapShadowsUptoCard

/-- THE SECOND FORM's CARD OF 'pennantlaw08.HeapKeeps'. -/
def heapKeepsUptoCard : Claim7 := { stood := { row := heapKeepsUptoRow, standIns := [], harness := (true, "878cc77b6fbd5d91417f4bce3f6e037e942c9d4f80cf76894171d73d6fbdef65"), looks := false }, kinds := [], alts := [], laidByText := true, laidKinds := [.data, .data, .data, .data, .pinned], laidTests := true, laidLooks := .later }
def HeapKeepsUptoCardSaid : Prop := Claim7.holds Tryd.pinned (.plain (OpenSpec.upto heapKeepsSpec)) heapKeepsUptoCard

/-- THE SECOND FORM's CARD OF 'pennantlaw08.HeapCells'. -/
def heapCellsUptoCard : Claim7 := { stood := { row := heapCellsUptoRow, standIns := [], harness := (true, "878cc77b6fbd5d91417f4bce3f6e037e942c9d4f80cf76894171d73d6fbdef65"), looks := false }, kinds := [], alts := [], laidByText := true, laidKinds := [.data, .data, .data, .data, .pinned], laidTests := true, laidLooks := .later }
def HeapCellsUptoCardSaid : Prop := Claim7.holds Tryd.pinned (.plain (OpenSpec.upto heapCellsSpec)) heapCellsUptoCard
end Rows
end Go.Proofs.YtnfobcedbfbbiaaDoor
