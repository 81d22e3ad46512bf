/-
  DERIVED. GIVEN WITH THE SEED: THE CARDS: each row of YtleobnfmbhobgaaDoorRows.lean that lists a variable, with what it lists TIED to the program's text (the seventh form; the later family's looks); each row that meets fmt, with fmt's text TOLD by the authors' own Lean function (tested against real Go, not proved from fmt's source: count such statements apart). THE CARD IS WHAT COUNTS. Prove the row's statement (the work); the ties are given (YtleobnfmbhobgaaDoorTie.lean); close each card by the builder's one call (the guide's Derived/Test/ToyasCard.lean, 'card_holds'). Laid BY PROGRAM, IN A SANDBOX (cutbox-door.mjs). By AI agents, Wed Nov 11 2026. No macro, syntax, notation, axiom, sorry.
-/
import Derived.Test.YtleobnfmbhobgaaDoorRows
import GoSem.ClaimSeven
namespace Go.Proofs.YtleobnfmbhobgaaDoor
namespace Rows

/-- THE TIED CARD OF 'homecominglaw14.OutboxRoom'. -/
def outboxRoomCard : Claim7 := { stood := { row := outboxRoomRow, standIns := [], harness := (true, "b70c93cdd0d58d7e496b2770855c8594683c3f3f40335aedf55a86f8563ea43a"), looks := false }, kinds := [], alts := [], laidByText := true, laidKinds := [.data, .pinned], laidTests := true, laidLooks := .later }
def OutboxRoomCardSaid : Prop := Claim7.holds Tryd.pinned (.plain (OpenSpec.ofChange outboxRoomSpec)) outboxRoomCard

/-- THE TIED CARD OF 'homecominglaw14.OutboxOnce'. -/
def outboxOnceCard : Claim7 := { stood := { row := outboxOnceRow, standIns := [], harness := (true, "b70c93cdd0d58d7e496b2770855c8594683c3f3f40335aedf55a86f8563ea43a"), looks := false }, kinds := [], alts := [], laidByText := true, laidKinds := [.data, .pinned], laidTests := true, laidLooks := .later }
def OutboxOnceCardSaid : Prop := Claim7.holds Tryd.pinned (.plain (OpenSpec.ofChange outboxOnceSpec)) outboxOnceCard

/-- THE TIED CARD OF 'homecominglaw14.OutboxPlays'. -/
def outboxPlaysCard : Claim7 := { stood := { row := outboxPlaysRow, standIns := [], harness := (true, "b70c93cdd0d58d7e496b2770855c8594683c3f3f40335aedf55a86f8563ea43a"), looks := false }, kinds := [], alts := [], laidByText := true, laidKinds := [.data, .pinned], laidTests := true, laidLooks := .later }
def OutboxPlaysCardSaid : Prop := Claim7.holds Tryd.pinned (.plain (OpenSpec.ofChange outboxPlaysSpec)) outboxPlaysCard

/-- THE TIED CARD OF 'homecominglaw14.OutboxKeeps'. -/
def outboxKeepsCard : Claim7 := { stood := { row := outboxKeepsRow, standIns := [], harness := (true, "b70c93cdd0d58d7e496b2770855c8594683c3f3f40335aedf55a86f8563ea43a"), looks := false }, kinds := [], alts := [], laidByText := true, laidKinds := [.data, .pinned], laidTests := true, laidLooks := .later }
def OutboxKeepsCardSaid : Prop := Claim7.holds Tryd.pinned (.plain (OpenSpec.ofChange outboxKeepsSpec)) outboxKeepsCard

/-- THE TIED CARD OF 'homecominglaw14.OutboxOrder'. -/
def outboxOrderCard : Claim7 := { stood := { row := outboxOrderRow, standIns := [], harness := (true, "b70c93cdd0d58d7e496b2770855c8594683c3f3f40335aedf55a86f8563ea43a"), looks := false }, kinds := [], alts := [], laidByText := true, laidKinds := [.data, .pinned], laidTests := true, laidLooks := .later }
def OutboxOrderCardSaid : Prop := Claim7.holds Tryd.pinned (.plain (OpenSpec.ofChange outboxOrderSpec)) outboxOrderCard

/-- THE SECOND FORM's CARD OF 'homecominglaw14.OutboxRoom'. -/
def outboxRoomUptoCard : Claim7 := { stood := { row := outboxRoomUptoRow, standIns := [], harness := (true, "b70c93cdd0d58d7e496b2770855c8594683c3f3f40335aedf55a86f8563ea43a"), looks := false }, kinds := [], alts := [], laidByText := true, laidKinds := [.data, .pinned], laidTests := true, laidLooks := .later }
def OutboxRoomUptoCardSaid : Prop := Claim7.holds Tryd.pinned (.plain (OpenSpec.upto outboxRoomSpec)) outboxRoomUptoCard

/-- THE SECOND FORM's CARD OF 'homecominglaw14.OutboxOnce'. -/
def outboxOnceUptoCard : Claim7 := { stood := { row := outboxOnceUptoRow, standIns := [], harness := (true, "b70c93cdd0d58d7e496b2770855c8594683c3f3f40335aedf55a86f8563ea43a"), looks := false }, kinds := [], alts := [], laidByText := true, laidKinds := [.data, .pinned], laidTests := true, laidLooks := .later }
def OutboxOnceUptoCardSaid : Prop := Claim7.holds Tryd.pinned (.plain (OpenSpec.upto outboxOnceSpec)) outboxOnceUptoCard

/-- THE SECOND FORM's CARD OF 'homecominglaw14.OutboxPlays'. -/
def outboxPlaysUptoCard : Claim7 := { stood := { row := outboxPlaysUptoRow, standIns := [], harness := (true, "b70c93cdd0d58d7e496b2770855c8594683c3f3f40335aedf55a86f8563ea43a"), looks := false }, kinds := [], alts := [], laidByText := true, laidKinds := [.data, .pinned], laidTests := true, laidLooks := .later }
def OutboxPlaysUptoCardSaid : Prop := Claim7.holds Tryd.pinned (.plain (OpenSpec.upto outboxPlaysSpec)) outboxPlaysUptoCard

/-- THE SECOND FORM's CARD OF 'homecominglaw14.OutboxKeeps'. -/
def outboxKeepsUptoCard : Claim7 := { stood := { row := outboxKeepsUptoRow, standIns := [], harness := (true, "b70c93cdd0d58d7e496b2770855c8594683c3f3f40335aedf55a86f8563ea43a"), looks := false }, kinds := [], alts := [], laidByText := true, laidKinds := [.data, .pinned], laidTests := true, laidLooks := .later }
def OutboxKeepsUptoCardSaid : Prop := Claim7.holds Tryd.pinned (.plain (OpenSpec.upto outboxKeepsSpec)) outboxKeepsUptoCard

/-- THE SECOND FORM's CARD OF 'homecominglaw14.OutboxOrder'. -/
def outboxOrderUptoCard : Claim7 := { stood := { row := outboxOrderUptoRow, standIns := [], harness := (true, "b70c93cdd0d58d7e496b2770855c8594683c3f3f40335aedf55a86f8563ea43a"), looks := false }, kinds := [], alts := [], laidByText := true, laidKinds := [.data, .pinned], laidTests := true, laidLooks := .later }
def OutboxOrderUptoCardSaid : Prop := Claim7.holds Tryd.pinned (.plain (OpenSpec.upto outboxOrderSpec)) outboxOrderUptoCard
end Rows
end Go.Proofs.YtleobnfmbhobgaaDoor
