/-
  NARROWER THAN 'FOR EVERY INPUT', by the rows' own cells (each row's printed sentence says how): CasesTell: laid · CasesLater: laid · CasesStay: laid · CasesRipe: laid.
  DERIVED. THE GIVEN ROWS OF THIS SEAT. 4 by the template 'for every input the law returns true; each argument reads behind the call as it read before'; 0 by the template 'total and deterministic' (their statements: YtcidllckmidkoaaDoorTotals.lean).
  GIVEN WITH THE SEED: the statements are not yours to turn. If you find one false, say at which input.
  Laid BY PROGRAM, IN A SANDBOX (cutbox-rows.mjs): the forced cells as the released guide's own fill.sh prints them over the translation 9f371d1504ba6997… (all of the seat's roots in one cut). By AI agents, Wed Nov 11 2026. No macro, syntax, notation, axiom, sorry.
-/
import Derived.Test.YtcidllckmidkoaaDoorChecked
import GoSem.PinnedTables
import GoSem.Claim
import GoSem.ClaimJoined
import GoSem.ClaimMapViews
import Derived.JoinedTies
import Derived.KernelRfl
namespace Go.Proofs.YtcidllckmidkoaaDoor
/- THE CELL 'sum', in the pinned program and in every row, IS THE sha256 OF THE DUMP (.gsa) THAT YtcidllckmidkoaaDoorProg.lean LOADS. Nothing in Lean hashes anything: it is a label: what it is worth is what the hold of that sum in a sandbox is worth. -/
noncomputable def Tryd.pinned : Pinned := { name := "ytcidllckmidkoaadoor", sum := "9f371d1504ba6997797bf5a3dbf5782b8892888672bd13c6159b3f4788f0d5eb", checked := Tryd.checked }
namespace Rows
def none {H : Type} : Left H := { results := [], args := [] }

/- WHAT THE LISTED PACKAGE-LEVEL VARIABLES READ AS WHEN THE CALL BEGINS. Each datum BY PROGRAM (the guide's laid-datum.mjs) off the statement by which the dump's own 'gosem.cut.vars' lays the variable. In a bare row this is a premise. The card (YtcidllckmidkoaaDoorCards.lean) ties it to the program's text. -/
def laid_unicode_utf8_acceptRanges {H : Type} : DataW H := .agg [.agg [.lit (.int .u8 128), .lit (.int .u8 191)], .agg [.lit (.int .u8 160), .lit (.int .u8 191)], .agg [.lit (.int .u8 128), .lit (.int .u8 159)], .agg [.lit (.int .u8 144), .lit (.int .u8 191)], .agg [.lit (.int .u8 128), .lit (.int .u8 143)], .agg [.lit (.int .u8 0), .lit (.int .u8 0)], .agg [.lit (.int .u8 0), .lit (.int .u8 0)], .agg [.lit (.int .u8 0), .lit (.int .u8 0)], .agg [.lit (.int .u8 0), .lit (.int .u8 0)], .agg [.lit (.int .u8 0), .lit (.int .u8 0)], .agg [.lit (.int .u8 0), .lit (.int .u8 0)], .agg [.lit (.int .u8 0), .lit (.int .u8 0)], .agg [.lit (.int .u8 0), .lit (.int .u8 0)], .agg [.lit (.int .u8 0), .lit (.int .u8 0)], .agg [.lit (.int .u8 0), .lit (.int .u8 0)], .agg [.lit (.int .u8 0), .lit (.int .u8 0)]]
/-- One of Go's own tables, pinned by name: the form's constant. -/
def laid_unicode_utf8_first : DataW Unit := Go.Pinned.utf8First

/-- 'homecominglaw17.CasesTell': WHATEVER THE INPUT: true; the input reads as it did. -/
def casesTellSpec : ChangeSpec := { name := "casesTell", fn := fun _ => fun
  | [d1, d2, d3] => { results := [.lit (.bool true)], args := [d1, d2, d3] }
  | _ => none }
def casesTellRow : OpenClaim := { program := "ytcidllckmidkoaadoor", sum := "9f371d1504ba6997797bf5a3dbf5782b8892888672bd13c6159b3f4788f0d5eb", func := "homecoming/homecominglaw17.CasesTell", spec := "casesTell", inPlace := ["internal/bytealg.IndexByteString", "internal/bytealg.IndexString", "internal/bytealg.CountString"], unfollowed := true, recurses := true, named := ["internal/bytealg.MaxLen", "unicode/utf8.first", "unicode/utf8.acceptRanges"], apart := false, laid := [("unicode/utf8.acceptRanges", laid_unicode_utf8_acceptRanges), ("unicode/utf8.first", laid_unicode_utf8_first)] }
def CasesTellSaid : Prop := casesTellRow.holds Tryd.pinned (OpenSpec.ofChange casesTellSpec)

/-- ITS FALSE NEIGHBOUR: 'it returns false'. Refute it at one input. -/
def casesTellWrong : ChangeSpec := { name := "casesTell", fn := fun _ => fun
  | [d1, d2, d3] => { results := [.lit (.bool false)], args := [d1, d2, d3] }
  | _ => none }
def CasesTellWrongFalsely : Prop := casesTellRow.holds Tryd.pinned (OpenSpec.ofChange casesTellWrong)

/-- 'homecominglaw17.CasesLater': WHATEVER THE INPUT: true; the input reads as it did. -/
def casesLaterSpec : ChangeSpec := { name := "casesLater", fn := fun _ => fun
  | [d1, d2, d3] => { results := [.lit (.bool true)], args := [d1, d2, d3] }
  | _ => none }
def casesLaterRow : OpenClaim := { program := "ytcidllckmidkoaadoor", sum := "9f371d1504ba6997797bf5a3dbf5782b8892888672bd13c6159b3f4788f0d5eb", func := "homecoming/homecominglaw17.CasesLater", spec := "casesLater", inPlace := ["slices.overlaps[homecoming/api.Case]", "internal/bytealg.IndexByteString", "internal/bytealg.IndexString", "internal/bytealg.CountString"], unfollowed := true, recurses := true, named := ["internal/bytealg.MaxLen", "unicode/utf8.first", "unicode/utf8.acceptRanges"], apart := false, laid := [("unicode/utf8.acceptRanges", laid_unicode_utf8_acceptRanges), ("unicode/utf8.first", laid_unicode_utf8_first)] }
def CasesLaterSaid : Prop := casesLaterRow.holds Tryd.pinned (OpenSpec.ofChange casesLaterSpec)

/-- ITS FALSE NEIGHBOUR: 'it returns false'. Refute it at one input. -/
def casesLaterWrong : ChangeSpec := { name := "casesLater", fn := fun _ => fun
  | [d1, d2, d3] => { results := [.lit (.bool false)], args := [d1, d2, d3] }
  | _ => none }
def CasesLaterWrongFalsely : Prop := casesLaterRow.holds Tryd.pinned (OpenSpec.ofChange casesLaterWrong)

/-- 'homecominglaw17.CasesStay': WHATEVER THE INPUT: true; the input reads as it did. -/
def casesStaySpec : ChangeSpec := { name := "casesStay", fn := fun _ => fun
  | [d] => { results := [.lit (.bool true)], args := [d] }
  | _ => none }
def casesStayRow : OpenClaim := { program := "ytcidllckmidkoaadoor", sum := "9f371d1504ba6997797bf5a3dbf5782b8892888672bd13c6159b3f4788f0d5eb", func := "homecoming/homecominglaw17.CasesStay", spec := "casesStay", inPlace := ["slices.overlaps[homecoming/api.Case]", "internal/bytealg.IndexByteString", "internal/bytealg.IndexString", "internal/bytealg.CountString"], unfollowed := true, recurses := true, named := ["internal/bytealg.MaxLen", "unicode/utf8.first", "unicode/utf8.acceptRanges"], apart := false, laid := [("unicode/utf8.acceptRanges", laid_unicode_utf8_acceptRanges), ("unicode/utf8.first", laid_unicode_utf8_first)] }
def CasesStaySaid : Prop := casesStayRow.holds Tryd.pinned (OpenSpec.ofChange casesStaySpec)

/-- ITS FALSE NEIGHBOUR: 'it returns false'. Refute it at one input. -/
def casesStayWrong : ChangeSpec := { name := "casesStay", fn := fun _ => fun
  | [d] => { results := [.lit (.bool false)], args := [d] }
  | _ => none }
def CasesStayWrongFalsely : Prop := casesStayRow.holds Tryd.pinned (OpenSpec.ofChange casesStayWrong)

/-- 'homecominglaw17.CasesRipe': WHATEVER THE INPUT: true; the input reads as it did. -/
def casesRipeSpec : ChangeSpec := { name := "casesRipe", fn := fun _ => fun
  | [d1, d2] => { results := [.lit (.bool true)], args := [d1, d2] }
  | _ => none }
def casesRipeRow : OpenClaim := { program := "ytcidllckmidkoaadoor", sum := "9f371d1504ba6997797bf5a3dbf5782b8892888672bd13c6159b3f4788f0d5eb", func := "homecoming/homecominglaw17.CasesRipe", spec := "casesRipe", inPlace := ["slices.overlaps[homecoming/api.Case]", "internal/bytealg.IndexByteString", "internal/bytealg.IndexString", "internal/bytealg.CountString"], unfollowed := true, recurses := true, named := ["internal/bytealg.MaxLen", "unicode/utf8.first", "unicode/utf8.acceptRanges"], apart := false, laid := [("unicode/utf8.acceptRanges", laid_unicode_utf8_acceptRanges), ("unicode/utf8.first", laid_unicode_utf8_first)] }
def CasesRipeSaid : Prop := casesRipeRow.holds Tryd.pinned (OpenSpec.ofChange casesRipeSpec)

/-- ITS FALSE NEIGHBOUR: 'it returns false'. Refute it at one input. -/
def casesRipeWrong : ChangeSpec := { name := "casesRipe", fn := fun _ => fun
  | [d1, d2] => { results := [.lit (.bool false)], args := [d1, d2] }
  | _ => none }
def CasesRipeWrongFalsely : Prop := casesRipeRow.holds Tryd.pinned (OpenSpec.ofChange casesRipeWrong)

/- THE SECOND FORM. 'bulk': how many values and letters a reading holds, each counted each time it is reached (what is shared counts as often as it is met; a slice's spare places count too). A statement '..UptoSaid' is the law's where the arguments, and the package variables that the reading takes, are together of bulk at most 1048576: NARROWER than '..Said'. Prove '..Said' where nothing that the law and all that it calls make is longer than what came in: it says more and counts as full. Else prove '..UptoSaid'. A law counts once. -/
mutual
def uptoBulk {H : Type} : DataW H → Nat
  | .lit (.string bytes) => bytes.length + 1
  | .lit _ => 1
  | .nil => 1
  | .ptr d => uptoBulk d + 1
  | .slice elems spare => uptoBulkAll elems + uptoBulkAll spare + 1
  | .agg parts => uptoBulkAll parts + 1
  | .iface _ d => uptoBulk d + 1
  | .map entries => uptoBulkEntries entries + 1
  | .held _ => 1
def uptoBulkAll {H : Type} : List (DataW H) → Nat
  | [] => 0
  | d :: r => uptoBulk d + uptoBulkAll r
def uptoBulkEntries {H : Type} : List (Lit × DataW H) → Nat
  | [] => 0
  | x :: r => uptoBulkEntry x + uptoBulkEntries r
def uptoBulkEntry {H : Type} : Lit × DataW H → Nat
  | (.string bytes, d) => bytes.length + uptoBulk d + 1
  | (_, d) => uptoBulk d + 1
 end
def uptoSmall : (H : Type) → List (DataW H) → Bool := fun _ ds => decide (uptoBulkAll ds ≤ 1048576)
def OpenSpec.upto (s : _root_.Go.ChangeSpec) : _root_.Go.OpenSpec := { _root_.Go.OpenSpec.ofChange s with cond := some uptoSmall }

/-- 'homecominglaw17.CasesTell', WHERE WHAT IT READS IS OF BULK AT MOST 1048576: true; the input reads as it did. -/
def casesTellUptoRow : OpenClaim := { program := "ytcidllckmidkoaadoor", sum := "9f371d1504ba6997797bf5a3dbf5782b8892888672bd13c6159b3f4788f0d5eb", func := "homecoming/homecominglaw17.CasesTell", spec := "casesTell", inPlace := ["internal/bytealg.IndexByteString", "internal/bytealg.IndexString", "internal/bytealg.CountString"], unfollowed := true, recurses := true, named := ["internal/bytealg.MaxLen", "unicode/utf8.first", "unicode/utf8.acceptRanges"], apart := false, laid := [("unicode/utf8.acceptRanges", laid_unicode_utf8_acceptRanges), ("unicode/utf8.first", laid_unicode_utf8_first)], narrowed := true }
def CasesTellUptoSaid : Prop := casesTellUptoRow.holds Tryd.pinned (OpenSpec.upto casesTellSpec)

/-- 'homecominglaw17.CasesLater', WHERE WHAT IT READS IS OF BULK AT MOST 1048576: true; the input reads as it did. -/
def casesLaterUptoRow : OpenClaim := { program := "ytcidllckmidkoaadoor", sum := "9f371d1504ba6997797bf5a3dbf5782b8892888672bd13c6159b3f4788f0d5eb", func := "homecoming/homecominglaw17.CasesLater", spec := "casesLater", inPlace := ["slices.overlaps[homecoming/api.Case]", "internal/bytealg.IndexByteString", "internal/bytealg.IndexString", "internal/bytealg.CountString"], unfollowed := true, recurses := true, named := ["internal/bytealg.MaxLen", "unicode/utf8.first", "unicode/utf8.acceptRanges"], apart := false, laid := [("unicode/utf8.acceptRanges", laid_unicode_utf8_acceptRanges), ("unicode/utf8.first", laid_unicode_utf8_first)], narrowed := true }
def CasesLaterUptoSaid : Prop := casesLaterUptoRow.holds Tryd.pinned (OpenSpec.upto casesLaterSpec)

/-- 'homecominglaw17.CasesStay', WHERE WHAT IT READS IS OF BULK AT MOST 1048576: true; the input reads as it did. -/
def casesStayUptoRow : OpenClaim := { program := "ytcidllckmidkoaadoor", sum := "9f371d1504ba6997797bf5a3dbf5782b8892888672bd13c6159b3f4788f0d5eb", func := "homecoming/homecominglaw17.CasesStay", spec := "casesStay", inPlace := ["slices.overlaps[homecoming/api.Case]", "internal/bytealg.IndexByteString", "internal/bytealg.IndexString", "internal/bytealg.CountString"], unfollowed := true, recurses := true, named := ["internal/bytealg.MaxLen", "unicode/utf8.first", "unicode/utf8.acceptRanges"], apart := false, laid := [("unicode/utf8.acceptRanges", laid_unicode_utf8_acceptRanges), ("unicode/utf8.first", laid_unicode_utf8_first)], narrowed := true }
def CasesStayUptoSaid : Prop := casesStayUptoRow.holds Tryd.pinned (OpenSpec.upto casesStaySpec)

/-- 'homecominglaw17.CasesRipe', WHERE WHAT IT READS IS OF BULK AT MOST 1048576: true; the input reads as it did. -/
def casesRipeUptoRow : OpenClaim := { program := "ytcidllckmidkoaadoor", sum := "9f371d1504ba6997797bf5a3dbf5782b8892888672bd13c6159b3f4788f0d5eb", func := "homecoming/homecominglaw17.CasesRipe", spec := "casesRipe", inPlace := ["slices.overlaps[homecoming/api.Case]", "internal/bytealg.IndexByteString", "internal/bytealg.IndexString", "internal/bytealg.CountString"], unfollowed := true, recurses := true, named := ["internal/bytealg.MaxLen", "unicode/utf8.first", "unicode/utf8.acceptRanges"], apart := false, laid := [("unicode/utf8.acceptRanges", laid_unicode_utf8_acceptRanges), ("unicode/utf8.first", laid_unicode_utf8_first)], narrowed := true }
def CasesRipeUptoSaid : Prop := casesRipeUptoRow.holds Tryd.pinned (OpenSpec.upto casesRipeSpec)

end Rows
end Go.Proofs.YtcidllckmidkoaaDoor
