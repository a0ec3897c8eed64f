/-
  DERIVED. GIVEN WITH THE SEED: THE CARDS: each row of YtmddmlmmmgbejaaDoorRows.lean that lists a variable, with what it lists TIED to the program's text (the seventh form; the later family's looks); each row that meets fmt, with fmt's text TOLD by the authors' own Lean function (tested against real Go, not proved from fmt's source: count such statements apart). THE CARD IS WHAT COUNTS. Prove the row's statement (the work); the ties are given (YtmddmlmmmgbejaaDoorTie.lean); close each card by the builder's one call (the guide's Derived/Test/ToyasCard.lean, 'card_holds'). Laid BY PROGRAM, IN A SANDBOX (cutbox-door.mjs). By AI agents, Wed Nov 11 2026. No macro, syntax, notation, axiom, sorry.
-/
import Derived.Test.YtmddmlmmmgbejaaDoorRows
import GoSem.ClaimSeven
namespace Go.Proofs.YtmddmlmmmgbejaaDoor
namespace Rows

/-- THE TIED CARD OF 'pennantlaw21.FieldsReads'. -/
def fieldsReadsCard : Claim7 := { stood := { row := fieldsReadsRow, standIns := [], harness := (true, "e2477795c01a2c47b069e94f0346bc5022fb43f9e003eb13a6cfd730d1ff5880"), looks := false }, kinds := [], alts := [], laidByText := true, laidKinds := [.data, .pinned], laidTests := true, laidLooks := .later }
def FieldsReadsCardSaid : Prop := Claim7.holds Tryd.pinned (.plain (OpenSpec.ofChange fieldsReadsSpec)) fieldsReadsCard

/-- THE TIED CARD OF 'pennantlaw21.FieldsWrites'. -/
def fieldsWritesCard : Claim7 := { stood := { row := fieldsWritesRow, standIns := [], harness := (true, "e2477795c01a2c47b069e94f0346bc5022fb43f9e003eb13a6cfd730d1ff5880"), looks := false }, kinds := [], alts := [], laidByText := true, laidKinds := [.data, .pinned], laidTests := true, laidLooks := .later }
def FieldsWritesCardSaid : Prop := Claim7.holds Tryd.pinned (.plain (OpenSpec.ofChange fieldsWritesSpec)) fieldsWritesCard

/-- THE TIED CARD OF 'pennantlaw21.FieldsBack'. -/
def fieldsBackCard : Claim7 := { stood := { row := fieldsBackRow, standIns := [], harness := (true, "e2477795c01a2c47b069e94f0346bc5022fb43f9e003eb13a6cfd730d1ff5880"), looks := false }, kinds := [], alts := [], laidByText := true, laidKinds := [.data, .pinned], laidTests := true, laidLooks := .later }
def FieldsBackCardSaid : Prop := Claim7.holds Tryd.pinned (.plain (OpenSpec.ofChange fieldsBackSpec)) fieldsBackCard

/-- THE TIED CARD OF 'pennantlaw21.FieldsJoins'. -/
def fieldsJoinsCard : Claim7 := { stood := { row := fieldsJoinsRow, standIns := [], harness := (true, "e2477795c01a2c47b069e94f0346bc5022fb43f9e003eb13a6cfd730d1ff5880"), looks := false }, kinds := [], alts := [], laidByText := true, laidKinds := [.data, .pinned], laidTests := true, laidLooks := .later }
def FieldsJoinsCardSaid : Prop := Claim7.holds Tryd.pinned (.plain (OpenSpec.ofChange fieldsJoinsSpec)) fieldsJoinsCard

/-- THE TIED CARD OF 'pennantlaw21.FieldsAgain'. -/
def fieldsAgainCard : Claim7 := { stood := { row := fieldsAgainRow, standIns := [], harness := (true, "e2477795c01a2c47b069e94f0346bc5022fb43f9e003eb13a6cfd730d1ff5880"), looks := false }, kinds := [], alts := [], laidByText := true, laidKinds := [.data, .pinned], laidTests := true, laidLooks := .later }
def FieldsAgainCardSaid : Prop := Claim7.holds Tryd.pinned (.plain (OpenSpec.ofChange fieldsAgainSpec)) fieldsAgainCard

/-- THE TIED CARD OF 'pennantlaw21.FieldsMany'. -/
def fieldsManyCard : Claim7 := { stood := { row := fieldsManyRow, standIns := [], harness := (true, "e2477795c01a2c47b069e94f0346bc5022fb43f9e003eb13a6cfd730d1ff5880"), looks := false }, kinds := [], alts := [], laidByText := true, laidKinds := [.data, .pinned], laidTests := true, laidLooks := .later }
def FieldsManyCardSaid : Prop := Claim7.holds Tryd.pinned (.plain (OpenSpec.ofChange fieldsManySpec)) fieldsManyCard

/-- THE SECOND FORM's CARD OF 'pennantlaw21.FieldsReads'. -/
def fieldsReadsUptoCard : Claim7 := { stood := { row := fieldsReadsUptoRow, standIns := [], harness := (true, "e2477795c01a2c47b069e94f0346bc5022fb43f9e003eb13a6cfd730d1ff5880"), looks := false }, kinds := [], alts := [], laidByText := true, laidKinds := [.data, .pinned], laidTests := true, laidLooks := .later }
def FieldsReadsUptoCardSaid : Prop := Claim7.holds Tryd.pinned (.plain (OpenSpec.upto fieldsReadsSpec)) fieldsReadsUptoCard

/-- THE SECOND FORM's CARD OF 'pennantlaw21.FieldsWrites'. -/
def fieldsWritesUptoCard : Claim7 := { stood := { row := fieldsWritesUptoRow, standIns := [], harness := (true, "e2477795c01a2c47b069e94f0346bc5022fb43f9e003eb13a6cfd730d1ff5880"), looks := false }, kinds := [], alts := [], laidByText := true, laidKinds := [.data, .pinned], laidTests := true, laidLooks := .later }
def FieldsWritesUptoCardSaid : Prop := Claim7.holds Tryd.pinned (.plain (OpenSpec.upto fieldsWritesSpec)) fieldsWritesUptoCard

/-- THE SECOND FORM's CARD OF 'pennantlaw21.FieldsBack'. -/
def fieldsBackUptoCard : Claim7 := { stood := { row := fieldsBackUptoRow, standIns := [], harness := (true, "e2477795c01a2c47b069e94f0346bc5022fb43f9e003eb13a6cfd730d1ff5880"), looks := false }, kinds := [], alts := [], laidByText := true, laidKinds := [.data, .pinned], laidTests := true, laidLooks := .later }
def FieldsBackUptoCardSaid : Prop := Claim7.holds Tryd.pinned (.plain (OpenSpec.upto fieldsBackSpec)) fieldsBackUptoCard

/-- THE SECOND FORM's CARD OF 'pennantlaw21.FieldsJoins'. -/
def fieldsJoinsUptoCard : Claim7 := { stood := { row := fieldsJoinsUptoRow, standIns := [], harness := (true, "e2477795c01a2c47b069e94f0346bc5022fb43f9e003eb13a6cfd730d1ff5880"), looks := false }, kinds := [], alts := [], laidByText := true, laidKinds := [.data, .pinned], laidTests := true, laidLooks := .later }
def FieldsJoinsUptoCardSaid : Prop := Claim7.holds Tryd.pinned (.plain (OpenSpec.upto fieldsJoinsSpec)) fieldsJoinsUptoCard

/-- THE SECOND FORM's CARD OF 'pennantlaw21.FieldsAgain'. -/
def fieldsAgainUptoCard : Claim7 := { stood := { row := fieldsAgainUptoRow, standIns := [], harness := (true, "e2477795c01a2c47b069e94f0346bc5022fb43f9e003eb13a6cfd730d1ff5880"), looks := false }, kinds := [], alts := [], laidByText := true, laidKinds := [.data, .pinned], laidTests := true, laidLooks := .later }
def FieldsAgainUptoCardSaid : Prop := Claim7.holds Tryd.pinned (.plain (OpenSpec.upto fieldsAgainSpec)) fieldsAgainUptoCard

/-- THE SECOND FORM's CARD OF 'pennantlaw21.FieldsMany'. -/
def fieldsManyUptoCard : Claim7 := { stood := { row := fieldsManyUptoRow, standIns := [], harness := (true, "e2477795c01a2c47b069e94f0346bc5022fb43f9e003eb13a6cfd730d1ff5880"), looks := false }, kinds := [], alts := [], laidByText := true, laidKinds := [.data, .pinned], laidTests := true, laidLooks := .later }
def FieldsManyUptoCardSaid : Prop := Claim7.holds Tryd.pinned (.plain (OpenSpec.upto fieldsManySpec)) fieldsManyUptoCard
end Rows
end Go.Proofs.YtmddmlmmmgbejaaDoor
