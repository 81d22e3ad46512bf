/-
  DERIVED. GIVEN WITH THE SEED: THE CARDS: each row of YtkihleecjgoipaaDoorRows.lean that lists a variable, with what it lists TIED to the program's text (the seventh form; the later family's looks); each row that meets fmt, with fmt's text TOLD by the authors' own Lean function (tested against real Go, not proved from fmt's source: count such statements apart). THE CARD IS WHAT COUNTS. Prove the row's statement (the work); the ties are given (YtkihleecjgoipaaDoorTie.lean); close each card by the builder's one call (the guide's Derived/Test/ToyasCard.lean, 'card_holds'). Laid BY PROGRAM, IN A SANDBOX (cutbox-door.mjs). By AI agents, Wed Nov 11 2026. No macro, syntax, notation, axiom, sorry.
-/
import Derived.Test.YtkihleecjgoipaaDoorRows
import GoSem.ClaimSeven
namespace Go.Proofs.YtkihleecjgoipaaDoor
namespace Rows

/-- THE TIED CARD OF 'homecominglaw16.PeopleVersions'. -/
def peopleVersionsCard : Claim7 := { stood := { row := peopleVersionsRow, standIns := [], harness := (true, "70b0f92f7a7edbe668a9dc5345198f2e935599013b188b6eb26d3c08c2da5d87"), looks := false }, kinds := [], alts := [], laidByText := true, laidKinds := [.data, .pinned], laidTests := true, laidLooks := .later }
def PeopleVersionsCardSaid : Prop := Claim7.holds Tryd.pinned (.plain (OpenSpec.ofChange peopleVersionsSpec)) peopleVersionsCard

/-- THE TIED CARD OF 'homecominglaw16.PeopleLocks'. -/
def peopleLocksCard : Claim7 := { stood := { row := peopleLocksRow, standIns := [], harness := (true, "70b0f92f7a7edbe668a9dc5345198f2e935599013b188b6eb26d3c08c2da5d87"), looks := false }, kinds := [], alts := [], laidByText := true, laidKinds := [.data, .pinned], laidTests := true, laidLooks := .later }
def PeopleLocksCardSaid : Prop := Claim7.holds Tryd.pinned (.plain (OpenSpec.ofChange peopleLocksSpec)) peopleLocksCard

/-- THE TIED CARD OF 'homecominglaw16.PeopleSessions'. -/
def peopleSessionsCard : Claim7 := { stood := { row := peopleSessionsRow, standIns := [], harness := (true, "70b0f92f7a7edbe668a9dc5345198f2e935599013b188b6eb26d3c08c2da5d87"), looks := false }, kinds := [], alts := [], laidByText := true, laidKinds := [.data, .pinned], laidTests := true, laidLooks := .later }
def PeopleSessionsCardSaid : Prop := Claim7.holds Tryd.pinned (.plain (OpenSpec.ofChange peopleSessionsSpec)) peopleSessionsCard

/-- THE TIED CARD OF 'homecominglaw16.PeopleApart'. -/
def peopleApartCard : Claim7 := { stood := { row := peopleApartRow, standIns := [], harness := (true, "70b0f92f7a7edbe668a9dc5345198f2e935599013b188b6eb26d3c08c2da5d87"), looks := false }, kinds := [], alts := [], laidByText := true, laidKinds := [.data, .pinned], laidTests := true, laidLooks := .later }
def PeopleApartCardSaid : Prop := Claim7.holds Tryd.pinned (.plain (OpenSpec.ofChange peopleApartSpec)) peopleApartCard

/-- THE TIED CARD OF 'homecominglaw16.PeopleTold'. -/
def peopleToldCard : Claim7 := { stood := { row := peopleToldRow, standIns := [], harness := (true, "70b0f92f7a7edbe668a9dc5345198f2e935599013b188b6eb26d3c08c2da5d87"), looks := false }, kinds := [], alts := [], laidByText := true, laidKinds := [.data, .pinned], laidTests := true, laidLooks := .later }
def PeopleToldCardSaid : Prop := Claim7.holds Tryd.pinned (.plain (OpenSpec.ofChange peopleToldSpec)) peopleToldCard

/-- THE TIED CARD OF 'homecominglaw16.PeopleStay'. -/
def peopleStayCard : Claim7 := { stood := { row := peopleStayRow, standIns := [], harness := (true, "70b0f92f7a7edbe668a9dc5345198f2e935599013b188b6eb26d3c08c2da5d87"), looks := false }, kinds := [], alts := [], laidByText := true, laidKinds := [.data, .pinned], laidTests := true, laidLooks := .later }
def PeopleStayCardSaid : Prop := Claim7.holds Tryd.pinned (.plain (OpenSpec.ofChange peopleStaySpec)) peopleStayCard

/-- THE SECOND FORM's CARD OF 'homecominglaw16.PeopleVersions'. -/
def peopleVersionsUptoCard : Claim7 := { stood := { row := peopleVersionsUptoRow, standIns := [], harness := (true, "70b0f92f7a7edbe668a9dc5345198f2e935599013b188b6eb26d3c08c2da5d87"), looks := false }, kinds := [], alts := [], laidByText := true, laidKinds := [.data, .pinned], laidTests := true, laidLooks := .later }
def PeopleVersionsUptoCardSaid : Prop := Claim7.holds Tryd.pinned (.plain (OpenSpec.upto peopleVersionsSpec)) peopleVersionsUptoCard

/-- THE SECOND FORM's CARD OF 'homecominglaw16.PeopleLocks'. -/
def peopleLocksUptoCard : Claim7 := { stood := { row := peopleLocksUptoRow, standIns := [], harness := (true, "70b0f92f7a7edbe668a9dc5345198f2e935599013b188b6eb26d3c08c2da5d87"), looks := false }, kinds := [], alts := [], laidByText := true, laidKinds := [.data, .pinned], laidTests := true, laidLooks := .later }
def PeopleLocksUptoCardSaid : Prop := Claim7.holds Tryd.pinned (.plain (OpenSpec.upto peopleLocksSpec)) peopleLocksUptoCard

/-- THE SECOND FORM's CARD OF 'homecominglaw16.PeopleSessions'. -/
def peopleSessionsUptoCard : Claim7 := { stood := { row := peopleSessionsUptoRow, standIns := [], harness := (true, "70b0f92f7a7edbe668a9dc5345198f2e935599013b188b6eb26d3c08c2da5d87"), looks := false }, kinds := [], alts := [], laidByText := true, laidKinds := [.data, .pinned], laidTests := true, laidLooks := .later }
def PeopleSessionsUptoCardSaid : Prop := Claim7.holds Tryd.pinned (.plain (OpenSpec.upto peopleSessionsSpec)) peopleSessionsUptoCard

/-- THE SECOND FORM's CARD OF 'homecominglaw16.PeopleApart'. -/
def peopleApartUptoCard : Claim7 := { stood := { row := peopleApartUptoRow, standIns := [], harness := (true, "70b0f92f7a7edbe668a9dc5345198f2e935599013b188b6eb26d3c08c2da5d87"), looks := false }, kinds := [], alts := [], laidByText := true, laidKinds := [.data, .pinned], laidTests := true, laidLooks := .later }
def PeopleApartUptoCardSaid : Prop := Claim7.holds Tryd.pinned (.plain (OpenSpec.upto peopleApartSpec)) peopleApartUptoCard

/-- THE SECOND FORM's CARD OF 'homecominglaw16.PeopleTold'. -/
def peopleToldUptoCard : Claim7 := { stood := { row := peopleToldUptoRow, standIns := [], harness := (true, "70b0f92f7a7edbe668a9dc5345198f2e935599013b188b6eb26d3c08c2da5d87"), looks := false }, kinds := [], alts := [], laidByText := true, laidKinds := [.data, .pinned], laidTests := true, laidLooks := .later }
def PeopleToldUptoCardSaid : Prop := Claim7.holds Tryd.pinned (.plain (OpenSpec.upto peopleToldSpec)) peopleToldUptoCard

/-- THE SECOND FORM's CARD OF 'homecominglaw16.PeopleStay'. -/
def peopleStayUptoCard : Claim7 := { stood := { row := peopleStayUptoRow, standIns := [], harness := (true, "70b0f92f7a7edbe668a9dc5345198f2e935599013b188b6eb26d3c08c2da5d87"), looks := false }, kinds := [], alts := [], laidByText := true, laidKinds := [.data, .pinned], laidTests := true, laidLooks := .later }
def PeopleStayUptoCardSaid : Prop := Claim7.holds Tryd.pinned (.plain (OpenSpec.upto peopleStaySpec)) peopleStayUptoCard
end Rows
end Go.Proofs.YtkihleecjgoipaaDoor
