/-
  DERIVED. GIVEN WITH THE SEED: THE CARDS: each row of YtocooobelmngdaaDoorRows.lean that lists a variable, with what it lists TIED to the program's text (the seventh form; the later family's looks); each row that meets fmt, with fmt's text TOLD by the authors' own Lean function (tested against real Go, not proved from fmt's source: count such statements apart). THE CARD IS WHAT COUNTS. Prove the row's statement (the work); the ties are given (YtocooobelmngdaaDoorTie.lean); close each card by the builder's one call (the guide's Derived/Test/ToyasCard.lean, 'card_holds'). Laid BY PROGRAM, IN A SANDBOX (cutbox-door.mjs). By AI agents, Wed Nov 11 2026. No macro, syntax, notation, axiom, sorry.
-/
import Derived.Test.YtocooobelmngdaaDoorRows
import GoSem.ClaimSeven
namespace Go.Proofs.YtocooobelmngdaaDoor
namespace Rows

/-- THE TIED CARD OF 'homecominglaw10.MintOnce'. -/
def mintOnceCard : Claim7 := { stood := { row := mintOnceRow, standIns := [], harness := (true, "2f85779c56c3b80d864ae150440319101aaf43e548c31797162efa27f5ca66fd"), looks := false }, kinds := [], alts := [], laidByText := true, laidKinds := [.data, .data, .data], laidTests := true, laidLooks := .later }
def MintOnceCardSaid : Prop := Claim7.holds Tryd.pinned (.plain (OpenSpec.ofChange mintOnceSpec)) mintOnceCard

/-- THE TIED CARD OF 'homecominglaw10.MintClock'. -/
def mintClockCard : Claim7 := { stood := { row := mintClockRow, standIns := [], harness := (true, "2f85779c56c3b80d864ae150440319101aaf43e548c31797162efa27f5ca66fd"), looks := false }, kinds := [], alts := [], laidByText := true, laidKinds := [.data, .data, .data], laidTests := true, laidLooks := .later }
def MintClockCardSaid : Prop := Claim7.holds Tryd.pinned (.plain (OpenSpec.ofChange mintClockSpec)) mintClockCard

/-- THE TIED CARD OF 'homecominglaw10.MintLives'. -/
def mintLivesCard : Claim7 := { stood := { row := mintLivesRow, standIns := [], harness := (true, "2f85779c56c3b80d864ae150440319101aaf43e548c31797162efa27f5ca66fd"), looks := false }, kinds := [], alts := [], laidByText := true, laidKinds := [.data, .data, .data, .data, .pinned], laidTests := true, laidLooks := .later }
def MintLivesCardSaid : Prop := Claim7.holds Tryd.pinned (.plain (OpenSpec.ofChange mintLivesSpec)) mintLivesCard

/-- THE TIED CARD OF 'homecominglaw10.MintRight'. -/
def mintRightCard : Claim7 := { stood := { row := mintRightRow, standIns := [], harness := (true, "2f85779c56c3b80d864ae150440319101aaf43e548c31797162efa27f5ca66fd"), looks := false }, kinds := [], alts := [], laidByText := true, laidKinds := [.data, .data, .data, .data, .pinned], laidTests := true, laidLooks := .later }
def MintRightCardSaid : Prop := Claim7.holds Tryd.pinned (.plain (OpenSpec.ofChange mintRightSpec)) mintRightCard

/-- THE SECOND FORM's CARD OF 'homecominglaw10.MintOnce'. -/
def mintOnceUptoCard : Claim7 := { stood := { row := mintOnceUptoRow, standIns := [], harness := (true, "2f85779c56c3b80d864ae150440319101aaf43e548c31797162efa27f5ca66fd"), looks := false }, kinds := [], alts := [], laidByText := true, laidKinds := [.data, .data, .data], laidTests := true, laidLooks := .later }
def MintOnceUptoCardSaid : Prop := Claim7.holds Tryd.pinned (.plain (OpenSpec.upto mintOnceSpec)) mintOnceUptoCard

/-- THE SECOND FORM's CARD OF 'homecominglaw10.MintClock'. -/
def mintClockUptoCard : Claim7 := { stood := { row := mintClockUptoRow, standIns := [], harness := (true, "2f85779c56c3b80d864ae150440319101aaf43e548c31797162efa27f5ca66fd"), looks := false }, kinds := [], alts := [], laidByText := true, laidKinds := [.data, .data, .data], laidTests := true, laidLooks := .later }
def MintClockUptoCardSaid : Prop := Claim7.holds Tryd.pinned (.plain (OpenSpec.upto mintClockSpec)) mintClockUptoCard

/-- THE SECOND FORM's CARD OF 'homecominglaw10.MintLives'. -/
def mintLivesUptoCard : Claim7 := { stood := { row := mintLivesUptoRow, standIns := [], harness := (true, "2f85779c56c3b80d864ae150440319101aaf43e548c31797162efa27f5ca66fd"), looks := false }, kinds := [], alts := [], laidByText := true, laidKinds := [.data, .data, .data, .data, .pinned], laidTests := true, laidLooks := .later }
def MintLivesUptoCardSaid : Prop := Claim7.holds Tryd.pinned (.plain (OpenSpec.upto mintLivesSpec)) mintLivesUptoCard

/-- THE SECOND FORM's CARD OF 'homecominglaw10.MintRight'. -/
def mintRightUptoCard : Claim7 := { stood := { row := mintRightUptoRow, standIns := [], harness := (true, "2f85779c56c3b80d864ae150440319101aaf43e548c31797162efa27f5ca66fd"), looks := false }, kinds := [], alts := [], laidByText := true, laidKinds := [.data, .data, .data, .data, .pinned], laidTests := true, laidLooks := .later }
def MintRightUptoCardSaid : Prop := Claim7.holds Tryd.pinned (.plain (OpenSpec.upto mintRightSpec)) mintRightUptoCard
end Rows
end Go.Proofs.YtocooobelmngdaaDoor
