/-
  DERIVED. GIVEN WITH THE SEED: THE CARDS: each row of YtcidllckmidkoaaDoorRows.lean that lists a variable, with what it lists TIED to the program's text (the seventh form; the later family's looks); each row that meets fmt, with fmt's text TOLD by the authors' own Lean function (tested against real Go, not proved from fmt's source: count such statements apart). THE CARD IS WHAT COUNTS. Prove the row's statement (the work); the ties are given (YtcidllckmidkoaaDoorTie.lean); close each card by the builder's one call (the guide's Derived/Test/ToyasCard.lean, 'card_holds'). Laid BY PROGRAM, IN A SANDBOX (cutbox-door.mjs). By AI agents, Wed Nov 11 2026. No macro, syntax, notation, axiom, sorry.
-/
import Derived.Test.YtcidllckmidkoaaDoorRows
import GoSem.ClaimSeven
namespace Go.Proofs.YtcidllckmidkoaaDoor
namespace Rows

/-- THE TIED CARD OF 'homecominglaw17.CasesTell'. -/
def casesTellCard : Claim7 := { stood := { row := casesTellRow, standIns := [], harness := (true, "1f2c707b01771abd54faeba227838660a375477c28c5a0c695ed2ae95ffcacc2"), looks := false }, kinds := [], alts := [], laidByText := true, laidKinds := [.data, .pinned], laidTests := true, laidLooks := .later }
def CasesTellCardSaid : Prop := Claim7.holds Tryd.pinned (.plain (OpenSpec.ofChange casesTellSpec)) casesTellCard

/-- THE TIED CARD OF 'homecominglaw17.CasesLater'. -/
def casesLaterCard : Claim7 := { stood := { row := casesLaterRow, standIns := [], harness := (true, "1f2c707b01771abd54faeba227838660a375477c28c5a0c695ed2ae95ffcacc2"), looks := false }, kinds := [], alts := [], laidByText := true, laidKinds := [.data, .pinned], laidTests := true, laidLooks := .later }
def CasesLaterCardSaid : Prop := Claim7.holds Tryd.pinned (.plain (OpenSpec.ofChange casesLaterSpec)) casesLaterCard

/-- THE TIED CARD OF 'homecominglaw17.CasesStay'. -/
def casesStayCard : Claim7 := { stood := { row := casesStayRow, standIns := [], harness := (true, "1f2c707b01771abd54faeba227838660a375477c28c5a0c695ed2ae95ffcacc2"), looks := false }, kinds := [], alts := [], laidByText := true, laidKinds := [.data, .pinned], laidTests := true, laidLooks := .later }
def CasesStayCardSaid : Prop := Claim7.holds Tryd.pinned (.plain (OpenSpec.ofChange casesStaySpec)) casesStayCard

/-- THE TIED CARD OF 'homecominglaw17.CasesRipe'. -/
def casesRipeCard : Claim7 := { stood := { row := casesRipeRow, standIns := [], harness := (true, "1f2c707b01771abd54faeba227838660a375477c28c5a0c695ed2ae95ffcacc2"), looks := false }, kinds := [], alts := [], laidByText := true, laidKinds := [.data, .pinned], laidTests := true, laidLooks := .later }
def CasesRipeCardSaid : Prop := Claim7.holds Tryd.pinned (.plain (OpenSpec.ofChange casesRipeSpec)) casesRipeCard

/-- THE SECOND FORM's CARD OF 'homecominglaw17.CasesTell'. -/
def casesTellUptoCard : Claim7 := { stood := { row := casesTellUptoRow, standIns := [], harness := (true, "1f2c707b01771abd54faeba227838660a375477c28c5a0c695ed2ae95ffcacc2"), looks := false }, kinds := [], alts := [], laidByText := true, laidKinds := [.data, .pinned], laidTests := true, laidLooks := .later }
def CasesTellUptoCardSaid : Prop := Claim7.holds Tryd.pinned (.plain (OpenSpec.upto casesTellSpec)) casesTellUptoCard

/-- THE SECOND FORM's CARD OF 'homecominglaw17.CasesLater'. -/
def casesLaterUptoCard : Claim7 := { stood := { row := casesLaterUptoRow, standIns := [], harness := (true, "1f2c707b01771abd54faeba227838660a375477c28c5a0c695ed2ae95ffcacc2"), looks := false }, kinds := [], alts := [], laidByText := true, laidKinds := [.data, .pinned], laidTests := true, laidLooks := .later }
def CasesLaterUptoCardSaid : Prop := Claim7.holds Tryd.pinned (.plain (OpenSpec.upto casesLaterSpec)) casesLaterUptoCard

/-- THE SECOND FORM's CARD OF 'homecominglaw17.CasesStay'. -/
def casesStayUptoCard : Claim7 := { stood := { row := casesStayUptoRow, standIns := [], harness := (true, "1f2c707b01771abd54faeba227838660a375477c28c5a0c695ed2ae95ffcacc2"), looks := false }, kinds := [], alts := [], laidByText := true, laidKinds := [.data, .pinned], laidTests := true, laidLooks := .later }
def CasesStayUptoCardSaid : Prop := Claim7.holds Tryd.pinned (.plain (OpenSpec.upto casesStaySpec)) casesStayUptoCard

/-- THE SECOND FORM's CARD OF 'homecominglaw17.CasesRipe'. -/
def casesRipeUptoCard : Claim7 := { stood := { row := casesRipeUptoRow, standIns := [], harness := (true, "1f2c707b01771abd54faeba227838660a375477c28c5a0c695ed2ae95ffcacc2"), looks := false }, kinds := [], alts := [], laidByText := true, laidKinds := [.data, .pinned], laidTests := true, laidLooks := .later }
def CasesRipeUptoCardSaid : Prop := Claim7.holds Tryd.pinned (.plain (OpenSpec.upto casesRipeSpec)) casesRipeUptoCard
end Rows
end Go.Proofs.YtcidllckmidkoaaDoor
