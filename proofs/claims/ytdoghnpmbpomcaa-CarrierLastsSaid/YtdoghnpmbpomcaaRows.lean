/-
  No cell of these rows narrows 'for every input' (looked for: loops, veiled, ifaces, maps, wideKeys, modest, calm, conditions, laid).
  DERIVED. THE GIVEN ROWS OF THIS SEAT. 5 by the template 'for every input the law returns true; each argument reads behind the call as it read before'; 0 by the template 'total and deterministic' (their statements: YtdoghnpmbpomcaaTotals.lean).
  GIVEN WITH THE SEED: the statements are not yours to turn. If you find one false, say at which input.
  Laid BY PROGRAM, IN A SANDBOX (cutbox-rows.mjs): the forced cells as the released guide's own fill.sh prints them over the translation 6ed122721ce640b2… (all of the seat's roots in one cut). By AI agents, Wed Nov 11 2026. No macro, syntax, notation, axiom, sorry.
-/
import Derived.Test.YtdoghnpmbpomcaaChecked
import GoSem.Claim
import GoSem.ClaimJoined
import GoSem.ClaimMapViews
import Derived.JoinedTies
import Derived.KernelRfl
namespace Go.Proofs.Ytdoghnpmbpomcaa
/- THE CELL 'sum', in the pinned program and in every row, IS THE sha256 OF THE DUMP (.gsa) THAT YtdoghnpmbpomcaaProg.lean LOADS. Nothing in Lean hashes anything: it is a label: what it is worth is what the hold of that sum in a sandbox is worth. -/
noncomputable def Try.pinned : Pinned := { name := "ytdoghnpmbpomcaa", sum := "6ed122721ce640b2df3a8298c5f21a3a9e0e21ab408b54750318f2095f619d36", checked := Try.checked }
namespace Rows
def none {H : Type} : Left H := { results := [], args := [] }

/-- 'homecominglaw21.CarrierOrder': WHATEVER THE INPUT: true; the input reads as it did. -/
def carrierOrderSpec : ChangeSpec := { name := "carrierOrder", fn := fun _ => fun
  | [d] => { results := [.lit (.bool true)], args := [d] }
  | _ => none }
def carrierOrderRow : OpenClaim := { program := "ytdoghnpmbpomcaa", sum := "6ed122721ce640b2df3a8298c5f21a3a9e0e21ab408b54750318f2095f619d36", func := "homecoming/homecominglaw21.CarrierOrder", spec := "carrierOrder", inPlace := ["slices.overlaps[homecoming/api.Letter]"], unfollowed := true, recurses := true, apart := false }
def CarrierOrderSaid : Prop := carrierOrderRow.holds Try.pinned (OpenSpec.ofChange carrierOrderSpec)

/-- ITS FALSE NEIGHBOUR: 'it returns false'. Refute it at one input. -/
def carrierOrderWrong : ChangeSpec := { name := "carrierOrder", fn := fun _ => fun
  | [d] => { results := [.lit (.bool false)], args := [d] }
  | _ => none }
def CarrierOrderWrongFalsely : Prop := carrierOrderRow.holds Try.pinned (OpenSpec.ofChange carrierOrderWrong)

/-- 'homecominglaw21.CarrierArrives': WHATEVER THE INPUT: true; the input reads as it did. -/
def carrierArrivesSpec : ChangeSpec := { name := "carrierArrives", fn := fun _ => fun
  | [d] => { results := [.lit (.bool true)], args := [d] }
  | _ => none }
def carrierArrivesRow : OpenClaim := { program := "ytdoghnpmbpomcaa", sum := "6ed122721ce640b2df3a8298c5f21a3a9e0e21ab408b54750318f2095f619d36", func := "homecoming/homecominglaw21.CarrierArrives", spec := "carrierArrives", inPlace := ["slices.overlaps[homecoming/api.Letter]"], unfollowed := true, recurses := true, apart := false }
def CarrierArrivesSaid : Prop := carrierArrivesRow.holds Try.pinned (OpenSpec.ofChange carrierArrivesSpec)

/-- ITS FALSE NEIGHBOUR: 'it returns false'. Refute it at one input. -/
def carrierArrivesWrong : ChangeSpec := { name := "carrierArrives", fn := fun _ => fun
  | [d] => { results := [.lit (.bool false)], args := [d] }
  | _ => none }
def CarrierArrivesWrongFalsely : Prop := carrierArrivesRow.holds Try.pinned (OpenSpec.ofChange carrierArrivesWrong)

/-- 'homecominglaw21.CarrierLasts': WHATEVER THE INPUT: true; the input reads as it did. -/
def carrierLastsSpec : ChangeSpec := { name := "carrierLasts", fn := fun _ => fun
  | [d1, d2] => { results := [.lit (.bool true)], args := [d1, d2] }
  | _ => none }
def carrierLastsRow : OpenClaim := { program := "ytdoghnpmbpomcaa", sum := "6ed122721ce640b2df3a8298c5f21a3a9e0e21ab408b54750318f2095f619d36", func := "homecoming/homecominglaw21.CarrierLasts", spec := "carrierLasts", inPlace := ["slices.overlaps[homecoming/api.Letter]"], unfollowed := true, recurses := true, apart := false }
def CarrierLastsSaid : Prop := carrierLastsRow.holds Try.pinned (OpenSpec.ofChange carrierLastsSpec)

/-- ITS FALSE NEIGHBOUR: 'it returns false'. Refute it at one input. -/
def carrierLastsWrong : ChangeSpec := { name := "carrierLasts", fn := fun _ => fun
  | [d1, d2] => { results := [.lit (.bool false)], args := [d1, d2] }
  | _ => none }
def CarrierLastsWrongFalsely : Prop := carrierLastsRow.holds Try.pinned (OpenSpec.ofChange carrierLastsWrong)

/-- 'homecominglaw21.CarrierPlays': WHATEVER THE INPUT: true; the input reads as it did. -/
def carrierPlaysSpec : ChangeSpec := { name := "carrierPlays", fn := fun _ => fun
  | [d1, d2] => { results := [.lit (.bool true)], args := [d1, d2] }
  | _ => none }
def carrierPlaysRow : OpenClaim := { program := "ytdoghnpmbpomcaa", sum := "6ed122721ce640b2df3a8298c5f21a3a9e0e21ab408b54750318f2095f619d36", func := "homecoming/homecominglaw21.CarrierPlays", spec := "carrierPlays", inPlace := ["slices.overlaps[homecoming/api.Letter]"], unfollowed := true, recurses := true, apart := false }
def CarrierPlaysSaid : Prop := carrierPlaysRow.holds Try.pinned (OpenSpec.ofChange carrierPlaysSpec)

/-- ITS FALSE NEIGHBOUR: 'it returns false'. Refute it at one input. -/
def carrierPlaysWrong : ChangeSpec := { name := "carrierPlays", fn := fun _ => fun
  | [d1, d2] => { results := [.lit (.bool false)], args := [d1, d2] }
  | _ => none }
def CarrierPlaysWrongFalsely : Prop := carrierPlaysRow.holds Try.pinned (OpenSpec.ofChange carrierPlaysWrong)

/-- 'homecominglaw21.CarrierNil': WHATEVER THE INPUT: true; the input reads as it did. -/
def carrierNilSpec : ChangeSpec := { name := "carrierNil", fn := fun _ => fun
  | [d1, d2] => { results := [.lit (.bool true)], args := [d1, d2] }
  | _ => none }
def carrierNilRow : OpenClaim := { program := "ytdoghnpmbpomcaa", sum := "6ed122721ce640b2df3a8298c5f21a3a9e0e21ab408b54750318f2095f619d36", func := "homecoming/homecominglaw21.CarrierNil", spec := "carrierNil", inPlace := ["slices.overlaps[homecoming/api.Letter]"], unfollowed := true, recurses := true, apart := false }
def CarrierNilSaid : Prop := carrierNilRow.holds Try.pinned (OpenSpec.ofChange carrierNilSpec)

/-- ITS FALSE NEIGHBOUR: 'it returns false'. Refute it at one input. -/
def carrierNilWrong : ChangeSpec := { name := "carrierNil", fn := fun _ => fun
  | [d1, d2] => { results := [.lit (.bool false)], args := [d1, d2] }
  | _ => none }
def CarrierNilWrongFalsely : Prop := carrierNilRow.holds Try.pinned (OpenSpec.ofChange carrierNilWrong)

/- THE SECOND FORM. 'bulk': how many values and letters a reading holds, each counted each time it is reached (what is shared counts as often as it is met; a slice's spare places count too). A statement '..UptoSaid' is the law's where the arguments, and the package variables that the reading takes, are together of bulk at most 1048576: NARROWER than '..Said'. Prove '..Said' where nothing that the law and all that it calls make is longer than what came in: it says more and counts as full. Else prove '..UptoSaid'. A law counts once. -/
mutual
def uptoBulk {H : Type} : DataW H → Nat
  | .lit (.string bytes) => bytes.length + 1
  | .lit _ => 1
  | .nil => 1
  | .ptr d => uptoBulk d + 1
  | .slice elems spare => uptoBulkAll elems + uptoBulkAll spare + 1
  | .agg parts => uptoBulkAll parts + 1
  | .iface _ d => uptoBulk d + 1
  | .map entries => uptoBulkEntries entries + 1
  | .held _ => 1
def uptoBulkAll {H : Type} : List (DataW H) → Nat
  | [] => 0
  | d :: r => uptoBulk d + uptoBulkAll r
def uptoBulkEntries {H : Type} : List (Lit × DataW H) → Nat
  | [] => 0
  | x :: r => uptoBulkEntry x + uptoBulkEntries r
def uptoBulkEntry {H : Type} : Lit × DataW H → Nat
  | (.string bytes, d) => bytes.length + uptoBulk d + 1
  | (_, d) => uptoBulk d + 1
 end
def uptoSmall : (H : Type) → List (DataW H) → Bool := fun _ ds => decide (uptoBulkAll ds ≤ 1048576)
def OpenSpec.upto (s : _root_.Go.ChangeSpec) : _root_.Go.OpenSpec := { _root_.Go.OpenSpec.ofChange s with cond := some uptoSmall }

/-- 'homecominglaw21.CarrierOrder', WHERE WHAT IT READS IS OF BULK AT MOST 1048576: true; the input reads as it did. -/
def carrierOrderUptoRow : OpenClaim := { program := "ytdoghnpmbpomcaa", sum := "6ed122721ce640b2df3a8298c5f21a3a9e0e21ab408b54750318f2095f619d36", func := "homecoming/homecominglaw21.CarrierOrder", spec := "carrierOrder", inPlace := ["slices.overlaps[homecoming/api.Letter]"], unfollowed := true, recurses := true, apart := false, narrowed := true }
def CarrierOrderUptoSaid : Prop := carrierOrderUptoRow.holds Try.pinned (OpenSpec.upto carrierOrderSpec)

/-- 'homecominglaw21.CarrierArrives', WHERE WHAT IT READS IS OF BULK AT MOST 1048576: true; the input reads as it did. -/
def carrierArrivesUptoRow : OpenClaim := { program := "ytdoghnpmbpomcaa", sum := "6ed122721ce640b2df3a8298c5f21a3a9e0e21ab408b54750318f2095f619d36", func := "homecoming/homecominglaw21.CarrierArrives", spec := "carrierArrives", inPlace := ["slices.overlaps[homecoming/api.Letter]"], unfollowed := true, recurses := true, apart := false, narrowed := true }
def CarrierArrivesUptoSaid : Prop := carrierArrivesUptoRow.holds Try.pinned (OpenSpec.upto carrierArrivesSpec)

/-- 'homecominglaw21.CarrierLasts', WHERE WHAT IT READS IS OF BULK AT MOST 1048576: true; the input reads as it did. -/
def carrierLastsUptoRow : OpenClaim := { program := "ytdoghnpmbpomcaa", sum := "6ed122721ce640b2df3a8298c5f21a3a9e0e21ab408b54750318f2095f619d36", func := "homecoming/homecominglaw21.CarrierLasts", spec := "carrierLasts", inPlace := ["slices.overlaps[homecoming/api.Letter]"], unfollowed := true, recurses := true, apart := false, narrowed := true }
def CarrierLastsUptoSaid : Prop := carrierLastsUptoRow.holds Try.pinned (OpenSpec.upto carrierLastsSpec)

/-- 'homecominglaw21.CarrierPlays', WHERE WHAT IT READS IS OF BULK AT MOST 1048576: true; the input reads as it did. -/
def carrierPlaysUptoRow : OpenClaim := { program := "ytdoghnpmbpomcaa", sum := "6ed122721ce640b2df3a8298c5f21a3a9e0e21ab408b54750318f2095f619d36", func := "homecoming/homecominglaw21.CarrierPlays", spec := "carrierPlays", inPlace := ["slices.overlaps[homecoming/api.Letter]"], unfollowed := true, recurses := true, apart := false, narrowed := true }
def CarrierPlaysUptoSaid : Prop := carrierPlaysUptoRow.holds Try.pinned (OpenSpec.upto carrierPlaysSpec)

/-- 'homecominglaw21.CarrierNil', WHERE WHAT IT READS IS OF BULK AT MOST 1048576: true; the input reads as it did. -/
def carrierNilUptoRow : OpenClaim := { program := "ytdoghnpmbpomcaa", sum := "6ed122721ce640b2df3a8298c5f21a3a9e0e21ab408b54750318f2095f619d36", func := "homecoming/homecominglaw21.CarrierNil", spec := "carrierNil", inPlace := ["slices.overlaps[homecoming/api.Letter]"], unfollowed := true, recurses := true, apart := false, narrowed := true }
def CarrierNilUptoSaid : Prop := carrierNilUptoRow.holds Try.pinned (OpenSpec.upto carrierNilSpec)

end Rows
end Go.Proofs.Ytdoghnpmbpomcaa
