/-
  DERIVED. GIVEN WITH THE SEED: THE CARDS: each row of YtcnmnfllchiehaaDoorRows.lean that lists a variable, with what it lists TIED to the program's text (the seventh form; the later family's looks); each row that meets fmt, with fmt's text TOLD by the authors' own Lean function (tested against real Go, not proved from fmt's source: count such statements apart). THE CARD IS WHAT COUNTS. Prove the row's statement (the work); the ties are given (YtcnmnfllchiehaaDoorTie.lean); close each card by the builder's one call (the guide's Derived/Test/ToyasCard.lean, 'card_holds'). Laid BY PROGRAM, IN A SANDBOX (cutbox-door.mjs). By AI agents, Wed Nov 11 2026. No macro, syntax, notation, axiom, sorry.
-/
import Derived.Test.YtcnmnfllchiehaaDoorRows
import GoSem.ClaimSeven
namespace Go.Proofs.YtcnmnfllchiehaaDoor
namespace Rows

/-- THE TIED CARD OF 'empennagelaw22.TraceOps'. -/
def traceOpsCard : Claim7 := { stood := { row := traceOpsRow, standIns := [], harness := (true, "b6c84021425e50478b77485d2953a9f11e7a8ba386e8e4fdf5164bd70659d1fd"), looks := true }, kinds := [], alts := [], laidByText := true, laidKinds := [.data, .data, .data, .data, .sentinel, .sentinel, .pinned], laidTests := true, laidLooks := .later }
def TraceOpsCardSaid : Prop := Claim7.holds Tryd.pinned (.plain (OpenSpec.ofChange traceOpsSpec)) traceOpsCard

/-- THE TIED CARD OF 'empennagelaw22.TraceBack'. -/
def traceBackCard : Claim7 := { stood := { row := traceBackRow, standIns := [], harness := (true, "b6c84021425e50478b77485d2953a9f11e7a8ba386e8e4fdf5164bd70659d1fd"), looks := true }, kinds := [], alts := [], laidByText := true, laidKinds := [.data, .data, .data, .data, .sentinel, .sentinel, .pinned], laidTests := true, laidLooks := .later }
def TraceBackCardSaid : Prop := Claim7.holds Tryd.pinned (.plain (OpenSpec.ofChange traceBackSpec)) traceBackCard

/-- THE TIED CARD OF 'empennagelaw22.TraceLines'. -/
def traceLinesCard : Claim7 := { stood := { row := traceLinesRow, standIns := [], harness := (true, "b6c84021425e50478b77485d2953a9f11e7a8ba386e8e4fdf5164bd70659d1fd"), looks := true }, kinds := [], alts := [], laidByText := true, laidKinds := [.data, .data, .data, .data, .sentinel, .sentinel, .pinned], laidTests := true, laidLooks := .later }
def TraceLinesCardSaid : Prop := Claim7.holds Tryd.pinned (.plain (OpenSpec.ofChange traceLinesSpec)) traceLinesCard

/-- THE TIED CARD OF 'empennagelaw22.TraceParses'. -/
def traceParsesCard : Claim7 := { stood := { row := traceParsesRow, standIns := [], harness := (true, "b6c84021425e50478b77485d2953a9f11e7a8ba386e8e4fdf5164bd70659d1fd"), looks := true }, kinds := [], alts := [], laidByText := true, laidKinds := [.data, .data, .data, .data, .sentinel, .sentinel, .pinned], laidTests := true, laidLooks := .later }
def TraceParsesCardSaid : Prop := Claim7.holds Tryd.pinned (.plain (OpenSpec.ofChange traceParsesSpec)) traceParsesCard

/-- THE TIED CARD OF 'empennagelaw22.TraceErrors'. -/
def traceErrorsCard : Claim7 := { stood := { row := traceErrorsRow, standIns := [], harness := (true, "b6c84021425e50478b77485d2953a9f11e7a8ba386e8e4fdf5164bd70659d1fd"), looks := true }, kinds := [], alts := [], laidByText := true, laidKinds := [.data, .data, .data, .data, .sentinel, .sentinel, .pinned], laidTests := true, laidLooks := .later }
def TraceErrorsCardSaid : Prop := Claim7.holds Tryd.pinned (.plain (OpenSpec.ofChange traceErrorsSpec)) traceErrorsCard

/-- THE SECOND FORM's CARD OF 'empennagelaw22.TraceOps'. -/
def traceOpsUptoCard : Claim7 := { stood := { row := traceOpsUptoRow, standIns := [], harness := (true, "b6c84021425e50478b77485d2953a9f11e7a8ba386e8e4fdf5164bd70659d1fd"), looks := true }, kinds := [], alts := [], laidByText := true, laidKinds := [.data, .data, .data, .data, .sentinel, .sentinel, .pinned], laidTests := true, laidLooks := .later }
def TraceOpsUptoCardSaid : Prop := Claim7.holds Tryd.pinned (.plain (OpenSpec.upto traceOpsSpec)) traceOpsUptoCard

/-- THE SECOND FORM's CARD OF 'empennagelaw22.TraceBack'. -/
def traceBackUptoCard : Claim7 := { stood := { row := traceBackUptoRow, standIns := [], harness := (true, "b6c84021425e50478b77485d2953a9f11e7a8ba386e8e4fdf5164bd70659d1fd"), looks := true }, kinds := [], alts := [], laidByText := true, laidKinds := [.data, .data, .data, .data, .sentinel, .sentinel, .pinned], laidTests := true, laidLooks := .later }
def TraceBackUptoCardSaid : Prop := Claim7.holds Tryd.pinned (.plain (OpenSpec.upto traceBackSpec)) traceBackUptoCard

/-- THE SECOND FORM's CARD OF 'empennagelaw22.TraceLines'. -/
def traceLinesUptoCard : Claim7 := { stood := { row := traceLinesUptoRow, standIns := [], harness := (true, "b6c84021425e50478b77485d2953a9f11e7a8ba386e8e4fdf5164bd70659d1fd"), looks := true }, kinds := [], alts := [], laidByText := true, laidKinds := [.data, .data, .data, .data, .sentinel, .sentinel, .pinned], laidTests := true, laidLooks := .later }
def TraceLinesUptoCardSaid : Prop := Claim7.holds Tryd.pinned (.plain (OpenSpec.upto traceLinesSpec)) traceLinesUptoCard

/-- THE SECOND FORM's CARD OF 'empennagelaw22.TraceParses'. -/
def traceParsesUptoCard : Claim7 := { stood := { row := traceParsesUptoRow, standIns := [], harness := (true, "b6c84021425e50478b77485d2953a9f11e7a8ba386e8e4fdf5164bd70659d1fd"), looks := true }, kinds := [], alts := [], laidByText := true, laidKinds := [.data, .data, .data, .data, .sentinel, .sentinel, .pinned], laidTests := true, laidLooks := .later }
def TraceParsesUptoCardSaid : Prop := Claim7.holds Tryd.pinned (.plain (OpenSpec.upto traceParsesSpec)) traceParsesUptoCard

/-- THE SECOND FORM's CARD OF 'empennagelaw22.TraceErrors'. -/
def traceErrorsUptoCard : Claim7 := { stood := { row := traceErrorsUptoRow, standIns := [], harness := (true, "b6c84021425e50478b77485d2953a9f11e7a8ba386e8e4fdf5164bd70659d1fd"), looks := true }, kinds := [], alts := [], laidByText := true, laidKinds := [.data, .data, .data, .data, .sentinel, .sentinel, .pinned], laidTests := true, laidLooks := .later }
def TraceErrorsUptoCardSaid : Prop := Claim7.holds Tryd.pinned (.plain (OpenSpec.upto traceErrorsSpec)) traceErrorsUptoCard
end Rows
end Go.Proofs.YtcnmnfllchiehaaDoor
