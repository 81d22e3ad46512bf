/-
  NARROWER THAN 'FOR EVERY INPUT', by the rows' own cells (each row's printed sentence says how): OutboxRoom: laid · OutboxOnce: laid · OutboxPlays: laid · OutboxKeeps: laid · OutboxOrder: laid.
  DERIVED. THE GIVEN ROWS OF THIS SEAT. 5 by the template 'for every input the law returns true; each argument reads behind the call as it read before'; 0 by the template 'total and deterministic' (their statements: YtleobnfmbhobgaaDoorTotals.lean).
  GIVEN WITH THE SEED: the statements are not yours to turn. If you find one false, say at which input.
  Laid BY PROGRAM, IN A SANDBOX (cutbox-rows.mjs): the forced cells as the released guide's own fill.sh prints them over the translation cdae9c1f314ba5eb… (all of the seat's roots in one cut). By AI agents, Wed Nov 11 2026. No macro, syntax, notation, axiom, sorry.
-/
import Derived.Test.YtleobnfmbhobgaaDoorChecked
import GoSem.PinnedTables
import GoSem.Claim
import GoSem.ClaimJoined
import GoSem.ClaimMapViews
import Derived.JoinedTies
import Derived.KernelRfl
namespace Go.Proofs.YtleobnfmbhobgaaDoor
/- THE CELL 'sum', in the pinned program and in every row, IS THE sha256 OF THE DUMP (.gsa) THAT YtleobnfmbhobgaaDoorProg.lean LOADS. Nothing in Lean hashes anything: it is a label: what it is worth is what the hold of that sum in a sandbox is worth. -/
noncomputable def Tryd.pinned : Pinned := { name := "ytleobnfmbhobgaadoor", sum := "cdae9c1f314ba5ebf31736a04b2b02f056d2b6f4f8945178843f3de64b4706d6", checked := Tryd.checked }
namespace Rows
def none {H : Type} : Left H := { results := [], args := [] }

/- WHAT THE LISTED PACKAGE-LEVEL VARIABLES READ AS WHEN THE CALL BEGINS. Each datum BY PROGRAM (the guide's laid-datum.mjs) off the statement by which the dump's own 'gosem.cut.vars' lays the variable. In a bare row this is a premise. The card (YtleobnfmbhobgaaDoorCards.lean) ties it to the program's text. -/
def laid_unicode_utf8_acceptRanges {H : Type} : DataW H := .agg [.agg [.lit (.int .u8 128), .lit (.int .u8 191)], .agg [.lit (.int .u8 160), .lit (.int .u8 191)], .agg [.lit (.int .u8 128), .lit (.int .u8 159)], .agg [.lit (.int .u8 144), .lit (.int .u8 191)], .agg [.lit (.int .u8 128), .lit (.int .u8 143)], .agg [.lit (.int .u8 0), .lit (.int .u8 0)], .agg [.lit (.int .u8 0), .lit (.int .u8 0)], .agg [.lit (.int .u8 0), .lit (.int .u8 0)], .agg [.lit (.int .u8 0), .lit (.int .u8 0)], .agg [.lit (.int .u8 0), .lit (.int .u8 0)], .agg [.lit (.int .u8 0), .lit (.int .u8 0)], .agg [.lit (.int .u8 0), .lit (.int .u8 0)], .agg [.lit (.int .u8 0), .lit (.int .u8 0)], .agg [.lit (.int .u8 0), .lit (.int .u8 0)], .agg [.lit (.int .u8 0), .lit (.int .u8 0)], .agg [.lit (.int .u8 0), .lit (.int .u8 0)]]
/-- One of Go's own tables, pinned by name: the form's constant. -/
def laid_unicode_utf8_first : DataW Unit := Go.Pinned.utf8First

/-- 'homecominglaw14.OutboxRoom': WHATEVER THE INPUT: true; the input reads as it did. -/
def outboxRoomSpec : ChangeSpec := { name := "outboxRoom", fn := fun _ => fun
  | [d] => { results := [.lit (.bool true)], args := [d] }
  | _ => none }
def outboxRoomRow : OpenClaim := { program := "ytleobnfmbhobgaadoor", sum := "cdae9c1f314ba5ebf31736a04b2b02f056d2b6f4f8945178843f3de64b4706d6", func := "homecoming/homecominglaw14.OutboxRoom", spec := "outboxRoom", inPlace := ["internal/bytealg.IndexByteString", "internal/bytealg.IndexString", "internal/bytealg.CountString"], unfollowed := true, recurses := true, named := ["internal/bytealg.MaxLen", "unicode/utf8.first", "unicode/utf8.acceptRanges"], apart := false, laid := [("unicode/utf8.acceptRanges", laid_unicode_utf8_acceptRanges), ("unicode/utf8.first", laid_unicode_utf8_first)] }
def OutboxRoomSaid : Prop := outboxRoomRow.holds Tryd.pinned (OpenSpec.ofChange outboxRoomSpec)

/-- ITS FALSE NEIGHBOUR: 'it returns false'. Refute it at one input. -/
def outboxRoomWrong : ChangeSpec := { name := "outboxRoom", fn := fun _ => fun
  | [d] => { results := [.lit (.bool false)], args := [d] }
  | _ => none }
def OutboxRoomWrongFalsely : Prop := outboxRoomRow.holds Tryd.pinned (OpenSpec.ofChange outboxRoomWrong)

/-- 'homecominglaw14.OutboxOnce': WHATEVER THE INPUT: true; the input reads as it did. -/
def outboxOnceSpec : ChangeSpec := { name := "outboxOnce", fn := fun _ => fun
  | [d1, d2] => { results := [.lit (.bool true)], args := [d1, d2] }
  | _ => none }
def outboxOnceRow : OpenClaim := { program := "ytleobnfmbhobgaadoor", sum := "cdae9c1f314ba5ebf31736a04b2b02f056d2b6f4f8945178843f3de64b4706d6", func := "homecoming/homecominglaw14.OutboxOnce", spec := "outboxOnce", inPlace := ["internal/bytealg.IndexByteString", "internal/bytealg.IndexString", "internal/bytealg.CountString"], unfollowed := true, recurses := true, named := ["internal/bytealg.MaxLen", "unicode/utf8.first", "unicode/utf8.acceptRanges"], apart := false, laid := [("unicode/utf8.acceptRanges", laid_unicode_utf8_acceptRanges), ("unicode/utf8.first", laid_unicode_utf8_first)] }
def OutboxOnceSaid : Prop := outboxOnceRow.holds Tryd.pinned (OpenSpec.ofChange outboxOnceSpec)

/-- ITS FALSE NEIGHBOUR: 'it returns false'. Refute it at one input. -/
def outboxOnceWrong : ChangeSpec := { name := "outboxOnce", fn := fun _ => fun
  | [d1, d2] => { results := [.lit (.bool false)], args := [d1, d2] }
  | _ => none }
def OutboxOnceWrongFalsely : Prop := outboxOnceRow.holds Tryd.pinned (OpenSpec.ofChange outboxOnceWrong)

/-- 'homecominglaw14.OutboxPlays': WHATEVER THE INPUT: true; the input reads as it did. -/
def outboxPlaysSpec : ChangeSpec := { name := "outboxPlays", fn := fun _ => fun
  | [d1, d2] => { results := [.lit (.bool true)], args := [d1, d2] }
  | _ => none }
def outboxPlaysRow : OpenClaim := { program := "ytleobnfmbhobgaadoor", sum := "cdae9c1f314ba5ebf31736a04b2b02f056d2b6f4f8945178843f3de64b4706d6", func := "homecoming/homecominglaw14.OutboxPlays", spec := "outboxPlays", inPlace := ["internal/bytealg.IndexByteString", "internal/bytealg.IndexString", "internal/bytealg.CountString"], unfollowed := true, recurses := true, named := ["internal/bytealg.MaxLen", "unicode/utf8.first", "unicode/utf8.acceptRanges"], apart := false, laid := [("unicode/utf8.acceptRanges", laid_unicode_utf8_acceptRanges), ("unicode/utf8.first", laid_unicode_utf8_first)] }
def OutboxPlaysSaid : Prop := outboxPlaysRow.holds Tryd.pinned (OpenSpec.ofChange outboxPlaysSpec)

/-- ITS FALSE NEIGHBOUR: 'it returns false'. Refute it at one input. -/
def outboxPlaysWrong : ChangeSpec := { name := "outboxPlays", fn := fun _ => fun
  | [d1, d2] => { results := [.lit (.bool false)], args := [d1, d2] }
  | _ => none }
def OutboxPlaysWrongFalsely : Prop := outboxPlaysRow.holds Tryd.pinned (OpenSpec.ofChange outboxPlaysWrong)

/-- 'homecominglaw14.OutboxKeeps': WHATEVER THE INPUT: true; the input reads as it did. -/
def outboxKeepsSpec : ChangeSpec := { name := "outboxKeeps", fn := fun _ => fun
  | [d1, d2, d3] => { results := [.lit (.bool true)], args := [d1, d2, d3] }
  | _ => none }
def outboxKeepsRow : OpenClaim := { program := "ytleobnfmbhobgaadoor", sum := "cdae9c1f314ba5ebf31736a04b2b02f056d2b6f4f8945178843f3de64b4706d6", func := "homecoming/homecominglaw14.OutboxKeeps", spec := "outboxKeeps", inPlace := ["internal/bytealg.IndexByteString", "internal/bytealg.IndexString", "internal/bytealg.CountString"], unfollowed := true, recurses := true, named := ["internal/bytealg.MaxLen", "unicode/utf8.first", "unicode/utf8.acceptRanges"], apart := false, laid := [("unicode/utf8.acceptRanges", laid_unicode_utf8_acceptRanges), ("unicode/utf8.first", laid_unicode_utf8_first)] }
def OutboxKeepsSaid : Prop := outboxKeepsRow.holds Tryd.pinned (OpenSpec.ofChange outboxKeepsSpec)

/-- ITS FALSE NEIGHBOUR: 'it returns false'. Refute it at one input. -/
def outboxKeepsWrong : ChangeSpec := { name := "outboxKeeps", fn := fun _ => fun
  | [d1, d2, d3] => { results := [.lit (.bool false)], args := [d1, d2, d3] }
  | _ => none }
def OutboxKeepsWrongFalsely : Prop := outboxKeepsRow.holds Tryd.pinned (OpenSpec.ofChange outboxKeepsWrong)

/-- 'homecominglaw14.OutboxOrder': WHATEVER THE INPUT: true; the input reads as it did. -/
def outboxOrderSpec : ChangeSpec := { name := "outboxOrder", fn := fun _ => fun
  | [d] => { results := [.lit (.bool true)], args := [d] }
  | _ => none }
def outboxOrderRow : OpenClaim := { program := "ytleobnfmbhobgaadoor", sum := "cdae9c1f314ba5ebf31736a04b2b02f056d2b6f4f8945178843f3de64b4706d6", func := "homecoming/homecominglaw14.OutboxOrder", spec := "outboxOrder", inPlace := ["internal/bytealg.IndexByteString", "internal/bytealg.IndexString", "internal/bytealg.CountString"], unfollowed := true, recurses := true, named := ["internal/bytealg.MaxLen", "unicode/utf8.first", "unicode/utf8.acceptRanges"], apart := false, laid := [("unicode/utf8.acceptRanges", laid_unicode_utf8_acceptRanges), ("unicode/utf8.first", laid_unicode_utf8_first)] }
def OutboxOrderSaid : Prop := outboxOrderRow.holds Tryd.pinned (OpenSpec.ofChange outboxOrderSpec)

/-- ITS FALSE NEIGHBOUR: 'it returns false'. Refute it at one input. -/
def outboxOrderWrong : ChangeSpec := { name := "outboxOrder", fn := fun _ => fun
  | [d] => { results := [.lit (.bool false)], args := [d] }
  | _ => none }
def OutboxOrderWrongFalsely : Prop := outboxOrderRow.holds Tryd.pinned (OpenSpec.ofChange outboxOrderWrong)

/- THE SECOND FORM. 'bulk': how many values and letters a reading holds, each counted each time it is reached (what is shared counts as often as it is met; a slice's spare places count too). A statement '..UptoSaid' is the law's where the arguments, and the package variables that the reading takes, are together of bulk at most 1048576: NARROWER than '..Said'. Prove '..Said' where nothing that the law and all that it calls make is longer than what came in: it says more and counts as full. Else prove '..UptoSaid'. A law counts once. -/
mutual
def uptoBulk {H : Type} : DataW H → Nat
  | .lit (.string bytes) => bytes.length + 1
  | .lit _ => 1
  | .nil => 1
  | .ptr d => uptoBulk d + 1
  | .slice elems spare => uptoBulkAll elems + uptoBulkAll spare + 1
  | .agg parts => uptoBulkAll parts + 1
  | .iface _ d => uptoBulk d + 1
  | .map entries => uptoBulkEntries entries + 1
  | .held _ => 1
def uptoBulkAll {H : Type} : List (DataW H) → Nat
  | [] => 0
  | d :: r => uptoBulk d + uptoBulkAll r
def uptoBulkEntries {H : Type} : List (Lit × DataW H) → Nat
  | [] => 0
  | x :: r => uptoBulkEntry x + uptoBulkEntries r
def uptoBulkEntry {H : Type} : Lit × DataW H → Nat
  | (.string bytes, d) => bytes.length + uptoBulk d + 1
  | (_, d) => uptoBulk d + 1
 end
def uptoSmall : (H : Type) → List (DataW H) → Bool := fun _ ds => decide (uptoBulkAll ds ≤ 1048576)
def OpenSpec.upto (s : _root_.Go.ChangeSpec) : _root_.Go.OpenSpec := { _root_.Go.OpenSpec.ofChange s with cond := some uptoSmall }

/-- 'homecominglaw14.OutboxRoom', WHERE WHAT IT READS IS OF BULK AT MOST 1048576: true; the input reads as it did. -/
def outboxRoomUptoRow : OpenClaim := { program := "ytleobnfmbhobgaadoor", sum := "cdae9c1f314ba5ebf31736a04b2b02f056d2b6f4f8945178843f3de64b4706d6", func := "homecoming/homecominglaw14.OutboxRoom", spec := "outboxRoom", inPlace := ["internal/bytealg.IndexByteString", "internal/bytealg.IndexString", "internal/bytealg.CountString"], unfollowed := true, recurses := true, named := ["internal/bytealg.MaxLen", "unicode/utf8.first", "unicode/utf8.acceptRanges"], apart := false, laid := [("unicode/utf8.acceptRanges", laid_unicode_utf8_acceptRanges), ("unicode/utf8.first", laid_unicode_utf8_first)], narrowed := true }
def OutboxRoomUptoSaid : Prop := outboxRoomUptoRow.holds Tryd.pinned (OpenSpec.upto outboxRoomSpec)

/-- 'homecominglaw14.OutboxOnce', WHERE WHAT IT READS IS OF BULK AT MOST 1048576: true; the input reads as it did. -/
def outboxOnceUptoRow : OpenClaim := { program := "ytleobnfmbhobgaadoor", sum := "cdae9c1f314ba5ebf31736a04b2b02f056d2b6f4f8945178843f3de64b4706d6", func := "homecoming/homecominglaw14.OutboxOnce", spec := "outboxOnce", inPlace := ["internal/bytealg.IndexByteString", "internal/bytealg.IndexString", "internal/bytealg.CountString"], unfollowed := true, recurses := true, named := ["internal/bytealg.MaxLen", "unicode/utf8.first", "unicode/utf8.acceptRanges"], apart := false, laid := [("unicode/utf8.acceptRanges", laid_unicode_utf8_acceptRanges), ("unicode/utf8.first", laid_unicode_utf8_first)], narrowed := true }
def OutboxOnceUptoSaid : Prop := outboxOnceUptoRow.holds Tryd.pinned (OpenSpec.upto outboxOnceSpec)

/-- 'homecominglaw14.OutboxPlays', WHERE WHAT IT READS IS OF BULK AT MOST 1048576: true; the input reads as it did. -/
def outboxPlaysUptoRow : OpenClaim := { program := "ytleobnfmbhobgaadoor", sum := "cdae9c1f314ba5ebf31736a04b2b02f056d2b6f4f8945178843f3de64b4706d6", func := "homecoming/homecominglaw14.OutboxPlays", spec := "outboxPlays", inPlace := ["internal/bytealg.IndexByteString", "internal/bytealg.IndexString", "internal/bytealg.CountString"], unfollowed := true, recurses := true, named := ["internal/bytealg.MaxLen", "unicode/utf8.first", "unicode/utf8.acceptRanges"], apart := false, laid := [("unicode/utf8.acceptRanges", laid_unicode_utf8_acceptRanges), ("unicode/utf8.first", laid_unicode_utf8_first)], narrowed := true }
def OutboxPlaysUptoSaid : Prop := outboxPlaysUptoRow.holds Tryd.pinned (OpenSpec.upto outboxPlaysSpec)

/-- 'homecominglaw14.OutboxKeeps', WHERE WHAT IT READS IS OF BULK AT MOST 1048576: true; the input reads as it did. -/
def outboxKeepsUptoRow : OpenClaim := { program := "ytleobnfmbhobgaadoor", sum := "cdae9c1f314ba5ebf31736a04b2b02f056d2b6f4f8945178843f3de64b4706d6", func := "homecoming/homecominglaw14.OutboxKeeps", spec := "outboxKeeps", inPlace := ["internal/bytealg.IndexByteString", "internal/bytealg.IndexString", "internal/bytealg.CountString"], unfollowed := true, recurses := true, named := ["internal/bytealg.MaxLen", "unicode/utf8.first", "unicode/utf8.acceptRanges"], apart := false, laid := [("unicode/utf8.acceptRanges", laid_unicode_utf8_acceptRanges), ("unicode/utf8.first", laid_unicode_utf8_first)], narrowed := true }
def OutboxKeepsUptoSaid : Prop := outboxKeepsUptoRow.holds Tryd.pinned (OpenSpec.upto outboxKeepsSpec)

/-- 'homecominglaw14.OutboxOrder', WHERE WHAT IT READS IS OF BULK AT MOST 1048576: true; the input reads as it did. -/
def outboxOrderUptoRow : OpenClaim := { program := "ytleobnfmbhobgaadoor", sum := "cdae9c1f314ba5ebf31736a04b2b02f056d2b6f4f8945178843f3de64b4706d6", func := "homecoming/homecominglaw14.OutboxOrder", spec := "outboxOrder", inPlace := ["internal/bytealg.IndexByteString", "internal/bytealg.IndexString", "internal/bytealg.CountString"], unfollowed := true, recurses := true, named := ["internal/bytealg.MaxLen", "unicode/utf8.first", "unicode/utf8.acceptRanges"], apart := false, laid := [("unicode/utf8.acceptRanges", laid_unicode_utf8_acceptRanges), ("unicode/utf8.first", laid_unicode_utf8_first)], narrowed := true }
def OutboxOrderUptoSaid : Prop := outboxOrderUptoRow.holds Tryd.pinned (OpenSpec.upto outboxOrderSpec)

end Rows
end Go.Proofs.YtleobnfmbhobgaaDoor
