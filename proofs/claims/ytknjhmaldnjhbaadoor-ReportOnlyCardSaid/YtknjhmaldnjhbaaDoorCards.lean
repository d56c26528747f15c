/-
  DERIVED. GIVEN WITH THE SEED: THE CARDS: each row of YtknjhmaldnjhbaaDoorRows.lean that lists a variable, with what it lists TIED to the program's text (the seventh form; the later family's looks); each row that meets fmt, with fmt's text TOLD by the authors' own Lean function (tested against real Go, not proved from fmt's source: count such statements apart). THE CARD IS WHAT COUNTS. Prove the row's statement (the work); the ties are given (YtknjhmaldnjhbaaDoorTie.lean); close each card by the builder's one call (the guide's Derived/Test/ToyasCard.lean, 'card_holds'). Laid BY PROGRAM, IN A SANDBOX (cutbox-door.mjs). By AI agents, Wed Nov 11 2026. No macro, syntax, notation, axiom, sorry.
-/
import Derived.Test.YtknjhmaldnjhbaaDoorRows
import GoSem.ClaimSeven
namespace Go.Proofs.YtknjhmaldnjhbaaDoor
namespace Rows

/-- THE TIED CARD OF 'sheaflaw23.ReportRuns'. -/
def reportRunsCard : Claim7 := { stood := { row := reportRunsRow, standIns := [], harness := (true, "87c149b0b78e56985a935b2fc253699735999bb97f87e10723b9edba05de4df2"), looks := true }, kinds := [], alts := [], laidByText := true, laidKinds := [.data, .data, .data, .data, .sentinel, .sentinel, .pinned], laidTests := true, laidLooks := .later }
def ReportRunsCardSaid : Prop := Claim7.holds Tryd.pinned (.plain (OpenSpec.ofChange reportRunsSpec)) reportRunsCard

/-- THE TIED CARD OF 'sheaflaw23.ReportBack'. -/
def reportBackCard : Claim7 := { stood := { row := reportBackRow, standIns := [], harness := (true, "87c149b0b78e56985a935b2fc253699735999bb97f87e10723b9edba05de4df2"), looks := true }, kinds := [], alts := [], laidByText := true, laidKinds := [.data, .data, .data, .data, .sentinel, .sentinel, .pinned], laidTests := true, laidLooks := .later }
def ReportBackCardSaid : Prop := Claim7.holds Tryd.pinned (.plain (OpenSpec.ofChange reportBackSpec)) reportBackCard

/-- THE TIED CARD OF 'sheaflaw23.ReportOnly'. -/
def reportOnlyCard : Claim7 := { stood := { row := reportOnlyRow, standIns := [], harness := (true, "87c149b0b78e56985a935b2fc253699735999bb97f87e10723b9edba05de4df2"), looks := true }, kinds := [], alts := [], laidByText := true, laidKinds := [.data, .data, .data, .data, .sentinel, .sentinel, .pinned], laidTests := true, laidLooks := .later }
def ReportOnlyCardSaid : Prop := Claim7.holds Tryd.pinned (.plain (OpenSpec.ofChange reportOnlySpec)) reportOnlyCard

/-- THE TIED CARD OF 'sheaflaw23.ReportAmounts'. -/
def reportAmountsCard : Claim7 := { stood := { row := reportAmountsRow, standIns := [], harness := (true, "87c149b0b78e56985a935b2fc253699735999bb97f87e10723b9edba05de4df2"), looks := true }, kinds := [], alts := [], laidByText := true, laidKinds := [.data, .data, .data, .data, .sentinel, .sentinel, .pinned], laidTests := true, laidLooks := .later }
def ReportAmountsCardSaid : Prop := Claim7.holds Tryd.pinned (.plain (OpenSpec.ofChange reportAmountsSpec)) reportAmountsCard

/-- THE TIED CARD OF 'sheaflaw23.ReportJoins'. -/
def reportJoinsCard : Claim7 := { stood := { row := reportJoinsRow, standIns := [], harness := (true, "87c149b0b78e56985a935b2fc253699735999bb97f87e10723b9edba05de4df2"), looks := true }, kinds := [], alts := [], laidByText := true, laidKinds := [.data, .data, .data, .data, .sentinel, .sentinel, .pinned], laidTests := true, laidLooks := .later }
def ReportJoinsCardSaid : Prop := Claim7.holds Tryd.pinned (.plain (OpenSpec.ofChange reportJoinsSpec)) reportJoinsCard

/-- THE SECOND FORM's CARD OF 'sheaflaw23.ReportRuns'. -/
def reportRunsUptoCard : Claim7 := { stood := { row := reportRunsUptoRow, standIns := [], harness := (true, "87c149b0b78e56985a935b2fc253699735999bb97f87e10723b9edba05de4df2"), looks := true }, kinds := [], alts := [], laidByText := true, laidKinds := [.data, .data, .data, .data, .sentinel, .sentinel, .pinned], laidTests := true, laidLooks := .later }
def ReportRunsUptoCardSaid : Prop := Claim7.holds Tryd.pinned (.plain (OpenSpec.upto reportRunsSpec)) reportRunsUptoCard

/-- THE SECOND FORM's CARD OF 'sheaflaw23.ReportBack'. -/
def reportBackUptoCard : Claim7 := { stood := { row := reportBackUptoRow, standIns := [], harness := (true, "87c149b0b78e56985a935b2fc253699735999bb97f87e10723b9edba05de4df2"), looks := true }, kinds := [], alts := [], laidByText := true, laidKinds := [.data, .data, .data, .data, .sentinel, .sentinel, .pinned], laidTests := true, laidLooks := .later }
def ReportBackUptoCardSaid : Prop := Claim7.holds Tryd.pinned (.plain (OpenSpec.upto reportBackSpec)) reportBackUptoCard

/-- THE SECOND FORM's CARD OF 'sheaflaw23.ReportOnly'. -/
def reportOnlyUptoCard : Claim7 := { stood := { row := reportOnlyUptoRow, standIns := [], harness := (true, "87c149b0b78e56985a935b2fc253699735999bb97f87e10723b9edba05de4df2"), looks := true }, kinds := [], alts := [], laidByText := true, laidKinds := [.data, .data, .data, .data, .sentinel, .sentinel, .pinned], laidTests := true, laidLooks := .later }
def ReportOnlyUptoCardSaid : Prop := Claim7.holds Tryd.pinned (.plain (OpenSpec.upto reportOnlySpec)) reportOnlyUptoCard

/-- THE SECOND FORM's CARD OF 'sheaflaw23.ReportAmounts'. -/
def reportAmountsUptoCard : Claim7 := { stood := { row := reportAmountsUptoRow, standIns := [], harness := (true, "87c149b0b78e56985a935b2fc253699735999bb97f87e10723b9edba05de4df2"), looks := true }, kinds := [], alts := [], laidByText := true, laidKinds := [.data, .data, .data, .data, .sentinel, .sentinel, .pinned], laidTests := true, laidLooks := .later }
def ReportAmountsUptoCardSaid : Prop := Claim7.holds Tryd.pinned (.plain (OpenSpec.upto reportAmountsSpec)) reportAmountsUptoCard

/-- THE SECOND FORM's CARD OF 'sheaflaw23.ReportJoins'. -/
def reportJoinsUptoCard : Claim7 := { stood := { row := reportJoinsUptoRow, standIns := [], harness := (true, "87c149b0b78e56985a935b2fc253699735999bb97f87e10723b9edba05de4df2"), looks := true }, kinds := [], alts := [], laidByText := true, laidKinds := [.data, .data, .data, .data, .sentinel, .sentinel, .pinned], laidTests := true, laidLooks := .later }
def ReportJoinsUptoCardSaid : Prop := Claim7.holds Tryd.pinned (.plain (OpenSpec.upto reportJoinsSpec)) reportJoinsUptoCard
end Rows
end Go.Proofs.YtknjhmaldnjhbaaDoor
