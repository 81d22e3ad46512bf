/-
  DERIVED. GIVEN WITH THE SEED: THE CARDS: each row of YtkihleecjgoipaaGreatDoorRows.lean that lists a variable, with what it lists TIED to the program's text (the seventh form; the later family's looks); each row that meets fmt, with fmt's text TOLD by the authors' own Lean function (tested against real Go, not proved from fmt's source: count such statements apart). THE CARD IS WHAT COUNTS. Prove the row's statement (the work); the ties are given (YtkihleecjgoipaaGreatDoorTie.lean); close each card by the builder's one call (the guide's Derived/Test/ToyasCard.lean, 'card_holds'). Laid BY PROGRAM, IN A SANDBOX (cutbox-door.mjs). By AI agents, Wed Nov 11 2026. No macro, syntax, notation, axiom, sorry.
-/
import Derived.Test.YtkihleecjgoipaaGreatDoorRows
import GoSem.ClaimSeven
namespace Go.Proofs.YtkihleecjgoipaaGreatDoor
namespace Rows

/-- THE TIED CARD OF 'homecominglaw16.PeopleChecks'. -/
def peopleChecksCard : Claim7 := { stood := { row := peopleChecksRow, standIns := [], harness := (true, "c75c2a2ed8f0b7feab991bd86206623eff68fdf767e501c1b5118709fdfa6a7e"), looks := false }, kinds := [], alts := [], laidByText := true, laidKinds := [.data, .pinned], laidTests := true, laidLooks := .later }
def PeopleChecksCardSaid : Prop := Claim7.holds Tryz.pinned (.plain (OpenSpec.ofChange peopleChecksSpec)) peopleChecksCard

/-- THE SECOND FORM's CARD OF 'homecominglaw16.PeopleChecks'. -/
def peopleChecksUptoCard : Claim7 := { stood := { row := peopleChecksUptoRow, standIns := [], harness := (true, "c75c2a2ed8f0b7feab991bd86206623eff68fdf767e501c1b5118709fdfa6a7e"), looks := false }, kinds := [], alts := [], laidByText := true, laidKinds := [.data, .pinned], laidTests := true, laidLooks := .later }
def PeopleChecksUptoCardSaid : Prop := Claim7.holds Tryz.pinned (.plain (OpenSpec.upto peopleChecksSpec)) peopleChecksUptoCard
end Rows
end Go.Proofs.YtkihleecjgoipaaGreatDoor
