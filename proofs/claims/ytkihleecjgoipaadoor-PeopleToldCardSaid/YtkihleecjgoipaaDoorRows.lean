/-
  NARROWER THAN 'FOR EVERY INPUT', by the rows' own cells (each row's printed sentence says how): PeopleVersions: laid · PeopleLocks: laid · PeopleSessions: laid · PeopleApart: laid · PeopleTold: laid · PeopleStay: laid.
  DERIVED. THE GIVEN ROWS OF THIS SEAT. 6 by the template 'for every input the law returns true; each argument reads behind the call as it read before'; 0 by the template 'total and deterministic' (their statements: YtkihleecjgoipaaDoorTotals.lean).
  GIVEN WITH THE SEED: the statements are not yours to turn. If you find one false, say at which input.
  Laid BY PROGRAM, IN A SANDBOX (cutbox-rows.mjs): the forced cells as the released guide's own fill.sh prints them over the translation dc8d9c3cebd059a0… (all of the seat's roots in one cut). By AI agents, Wed Nov 11 2026. No macro, syntax, notation, axiom, sorry.
-/
import Derived.Test.YtkihleecjgoipaaDoorChecked
import GoSem.PinnedTables
import GoSem.Claim
import GoSem.ClaimJoined
import GoSem.ClaimMapViews
import Derived.JoinedTies
import Derived.KernelRfl
namespace Go.Proofs.YtkihleecjgoipaaDoor
/- THE CELL 'sum', in the pinned program and in every row, IS THE sha256 OF THE DUMP (.gsa) THAT YtkihleecjgoipaaDoorProg.lean LOADS. Nothing in Lean hashes anything: it is a label: what it is worth is what the hold of that sum in a sandbox is worth. -/
noncomputable def Tryd.pinned : Pinned := { name := "ytkihleecjgoipaadoor", sum := "dc8d9c3cebd059a05debe9cb969cbd8f6d5deb88282477933a2238f00251bfc5", checked := Tryd.checked }
namespace Rows
def none {H : Type} : Left H := { results := [], args := [] }

/- WHAT THE LISTED PACKAGE-LEVEL VARIABLES READ AS WHEN THE CALL BEGINS. Each datum BY PROGRAM (the guide's laid-datum.mjs) off the statement by which the dump's own 'gosem.cut.vars' lays the variable. In a bare row this is a premise. The card (YtkihleecjgoipaaDoorCards.lean) ties it to the program's text. -/
def laid_unicode_utf8_acceptRanges {H : Type} : DataW H := .agg [.agg [.lit (.int .u8 128), .lit (.int .u8 191)], .agg [.lit (.int .u8 160), .lit (.int .u8 191)], .agg [.lit (.int .u8 128), .lit (.int .u8 159)], .agg [.lit (.int .u8 144), .lit (.int .u8 191)], .agg [.lit (.int .u8 128), .lit (.int .u8 143)], .agg [.lit (.int .u8 0), .lit (.int .u8 0)], .agg [.lit (.int .u8 0), .lit (.int .u8 0)], .agg [.lit (.int .u8 0), .lit (.int .u8 0)], .agg [.lit (.int .u8 0), .lit (.int .u8 0)], .agg [.lit (.int .u8 0), .lit (.int .u8 0)], .agg [.lit (.int .u8 0), .lit (.int .u8 0)], .agg [.lit (.int .u8 0), .lit (.int .u8 0)], .agg [.lit (.int .u8 0), .lit (.int .u8 0)], .agg [.lit (.int .u8 0), .lit (.int .u8 0)], .agg [.lit (.int .u8 0), .lit (.int .u8 0)], .agg [.lit (.int .u8 0), .lit (.int .u8 0)]]
/-- One of Go's own tables, pinned by name: the form's constant. -/
def laid_unicode_utf8_first : DataW Unit := Go.Pinned.utf8First

/-- 'homecominglaw16.PeopleVersions': WHATEVER THE INPUT: true; the input reads as it did. -/
def peopleVersionsSpec : ChangeSpec := { name := "peopleVersions", fn := fun _ => fun
  | [d] => { results := [.lit (.bool true)], args := [d] }
  | _ => none }
def peopleVersionsRow : OpenClaim := { program := "ytkihleecjgoipaadoor", sum := "dc8d9c3cebd059a05debe9cb969cbd8f6d5deb88282477933a2238f00251bfc5", func := "homecoming/homecominglaw16.PeopleVersions", spec := "peopleVersions", inPlace := ["internal/bytealg.IndexByteString", "internal/bytealg.IndexString", "internal/bytealg.CountString"], unfollowed := true, recurses := true, named := ["internal/bytealg.MaxLen", "unicode/utf8.first", "unicode/utf8.acceptRanges"], apart := false, laid := [("unicode/utf8.acceptRanges", laid_unicode_utf8_acceptRanges), ("unicode/utf8.first", laid_unicode_utf8_first)] }
def PeopleVersionsSaid : Prop := peopleVersionsRow.holds Tryd.pinned (OpenSpec.ofChange peopleVersionsSpec)

/-- ITS FALSE NEIGHBOUR: 'it returns false'. Refute it at one input. -/
def peopleVersionsWrong : ChangeSpec := { name := "peopleVersions", fn := fun _ => fun
  | [d] => { results := [.lit (.bool false)], args := [d] }
  | _ => none }
def PeopleVersionsWrongFalsely : Prop := peopleVersionsRow.holds Tryd.pinned (OpenSpec.ofChange peopleVersionsWrong)

/-- 'homecominglaw16.PeopleLocks': WHATEVER THE INPUT: true; the input reads as it did. -/
def peopleLocksSpec : ChangeSpec := { name := "peopleLocks", fn := fun _ => fun
  | [d1, d2] => { results := [.lit (.bool true)], args := [d1, d2] }
  | _ => none }
def peopleLocksRow : OpenClaim := { program := "ytkihleecjgoipaadoor", sum := "dc8d9c3cebd059a05debe9cb969cbd8f6d5deb88282477933a2238f00251bfc5", func := "homecoming/homecominglaw16.PeopleLocks", spec := "peopleLocks", inPlace := ["internal/bytealg.IndexByteString", "internal/bytealg.IndexString", "internal/bytealg.CountString"], unfollowed := true, recurses := true, named := ["internal/bytealg.MaxLen", "unicode/utf8.first", "unicode/utf8.acceptRanges"], apart := false, laid := [("unicode/utf8.acceptRanges", laid_unicode_utf8_acceptRanges), ("unicode/utf8.first", laid_unicode_utf8_first)] }
def PeopleLocksSaid : Prop := peopleLocksRow.holds Tryd.pinned (OpenSpec.ofChange peopleLocksSpec)

/-- ITS FALSE NEIGHBOUR: 'it returns false'. Refute it at one input. -/
def peopleLocksWrong : ChangeSpec := { name := "peopleLocks", fn := fun _ => fun
  | [d1, d2] => { results := [.lit (.bool false)], args := [d1, d2] }
  | _ => none }
def PeopleLocksWrongFalsely : Prop := peopleLocksRow.holds Tryd.pinned (OpenSpec.ofChange peopleLocksWrong)

/-- 'homecominglaw16.PeopleSessions': WHATEVER THE INPUT: true; the input reads as it did. -/
def peopleSessionsSpec : ChangeSpec := { name := "peopleSessions", fn := fun _ => fun
  | [d1, d2] => { results := [.lit (.bool true)], args := [d1, d2] }
  | _ => none }
def peopleSessionsRow : OpenClaim := { program := "ytkihleecjgoipaadoor", sum := "dc8d9c3cebd059a05debe9cb969cbd8f6d5deb88282477933a2238f00251bfc5", func := "homecoming/homecominglaw16.PeopleSessions", spec := "peopleSessions", inPlace := ["internal/bytealg.IndexByteString", "internal/bytealg.IndexString", "internal/bytealg.CountString"], unfollowed := true, recurses := true, named := ["internal/bytealg.MaxLen", "unicode/utf8.first", "unicode/utf8.acceptRanges"], apart := false, laid := [("unicode/utf8.acceptRanges", laid_unicode_utf8_acceptRanges), ("unicode/utf8.first", laid_unicode_utf8_first)] }
def PeopleSessionsSaid : Prop := peopleSessionsRow.holds Tryd.pinned (OpenSpec.ofChange peopleSessionsSpec)

/-- ITS FALSE NEIGHBOUR: 'it returns false'. Refute it at one input. -/
def peopleSessionsWrong : ChangeSpec := { name := "peopleSessions", fn := fun _ => fun
  | [d1, d2] => { results := [.lit (.bool false)], args := [d1, d2] }
  | _ => none }
def PeopleSessionsWrongFalsely : Prop := peopleSessionsRow.holds Tryd.pinned (OpenSpec.ofChange peopleSessionsWrong)

/-- 'homecominglaw16.PeopleApart': WHATEVER THE INPUT: true; the input reads as it did. -/
def peopleApartSpec : ChangeSpec := { name := "peopleApart", fn := fun _ => fun
  | [d1, d2] => { results := [.lit (.bool true)], args := [d1, d2] }
  | _ => none }
def peopleApartRow : OpenClaim := { program := "ytkihleecjgoipaadoor", sum := "dc8d9c3cebd059a05debe9cb969cbd8f6d5deb88282477933a2238f00251bfc5", func := "homecoming/homecominglaw16.PeopleApart", spec := "peopleApart", inPlace := ["internal/bytealg.IndexByteString", "internal/bytealg.IndexString", "internal/bytealg.CountString"], unfollowed := true, recurses := true, named := ["internal/bytealg.MaxLen", "unicode/utf8.first", "unicode/utf8.acceptRanges"], apart := false, laid := [("unicode/utf8.acceptRanges", laid_unicode_utf8_acceptRanges), ("unicode/utf8.first", laid_unicode_utf8_first)] }
def PeopleApartSaid : Prop := peopleApartRow.holds Tryd.pinned (OpenSpec.ofChange peopleApartSpec)

/-- ITS FALSE NEIGHBOUR: 'it returns false'. Refute it at one input. -/
def peopleApartWrong : ChangeSpec := { name := "peopleApart", fn := fun _ => fun
  | [d1, d2] => { results := [.lit (.bool false)], args := [d1, d2] }
  | _ => none }
def PeopleApartWrongFalsely : Prop := peopleApartRow.holds Tryd.pinned (OpenSpec.ofChange peopleApartWrong)

/-- 'homecominglaw16.PeopleTold': WHATEVER THE INPUT: true; the input reads as it did. -/
def peopleToldSpec : ChangeSpec := { name := "peopleTold", fn := fun _ => fun
  | [d1, d2] => { results := [.lit (.bool true)], args := [d1, d2] }
  | _ => none }
def peopleToldRow : OpenClaim := { program := "ytkihleecjgoipaadoor", sum := "dc8d9c3cebd059a05debe9cb969cbd8f6d5deb88282477933a2238f00251bfc5", func := "homecoming/homecominglaw16.PeopleTold", spec := "peopleTold", inPlace := ["internal/bytealg.IndexByteString", "internal/bytealg.IndexString", "internal/bytealg.CountString"], unfollowed := true, recurses := true, named := ["internal/bytealg.MaxLen", "unicode/utf8.first", "unicode/utf8.acceptRanges"], apart := false, laid := [("unicode/utf8.acceptRanges", laid_unicode_utf8_acceptRanges), ("unicode/utf8.first", laid_unicode_utf8_first)] }
def PeopleToldSaid : Prop := peopleToldRow.holds Tryd.pinned (OpenSpec.ofChange peopleToldSpec)

/-- ITS FALSE NEIGHBOUR: 'it returns false'. Refute it at one input. -/
def peopleToldWrong : ChangeSpec := { name := "peopleTold", fn := fun _ => fun
  | [d1, d2] => { results := [.lit (.bool false)], args := [d1, d2] }
  | _ => none }
def PeopleToldWrongFalsely : Prop := peopleToldRow.holds Tryd.pinned (OpenSpec.ofChange peopleToldWrong)

/-- 'homecominglaw16.PeopleStay': WHATEVER THE INPUT: true; the input reads as it did. -/
def peopleStaySpec : ChangeSpec := { name := "peopleStay", fn := fun _ => fun
  | [d] => { results := [.lit (.bool true)], args := [d] }
  | _ => none }
def peopleStayRow : OpenClaim := { program := "ytkihleecjgoipaadoor", sum := "dc8d9c3cebd059a05debe9cb969cbd8f6d5deb88282477933a2238f00251bfc5", func := "homecoming/homecominglaw16.PeopleStay", spec := "peopleStay", inPlace := ["internal/bytealg.IndexByteString", "internal/bytealg.IndexString", "internal/bytealg.CountString"], unfollowed := true, recurses := true, named := ["internal/bytealg.MaxLen", "unicode/utf8.first", "unicode/utf8.acceptRanges"], apart := false, laid := [("unicode/utf8.acceptRanges", laid_unicode_utf8_acceptRanges), ("unicode/utf8.first", laid_unicode_utf8_first)] }
def PeopleStaySaid : Prop := peopleStayRow.holds Tryd.pinned (OpenSpec.ofChange peopleStaySpec)

/-- ITS FALSE NEIGHBOUR: 'it returns false'. Refute it at one input. -/
def peopleStayWrong : ChangeSpec := { name := "peopleStay", fn := fun _ => fun
  | [d] => { results := [.lit (.bool false)], args := [d] }
  | _ => none }
def PeopleStayWrongFalsely : Prop := peopleStayRow.holds Tryd.pinned (OpenSpec.ofChange peopleStayWrong)

/- THE SECOND FORM. 'bulk': how many values and letters a reading holds, each counted each time it is reached (what is shared counts as often as it is met; a slice's spare places count too). A statement '..UptoSaid' is the law's where the arguments, and the package variables that the reading takes, are together of bulk at most 1048576: NARROWER than '..Said'. Prove '..Said' where nothing that the law and all that it calls make is longer than what came in: it says more and counts as full. Else prove '..UptoSaid'. A law counts once. -/
mutual
def uptoBulk {H : Type} : DataW H → Nat
  | .lit (.string bytes) => bytes.length + 1
  | .lit _ => 1
  | .nil => 1
  | .ptr d => uptoBulk d + 1
  | .slice elems spare => uptoBulkAll elems + uptoBulkAll spare + 1
  | .agg parts => uptoBulkAll parts + 1
  | .iface _ d => uptoBulk d + 1
  | .map entries => uptoBulkEntries entries + 1
  | .held _ => 1
def uptoBulkAll {H : Type} : List (DataW H) → Nat
  | [] => 0
  | d :: r => uptoBulk d + uptoBulkAll r
def uptoBulkEntries {H : Type} : List (Lit × DataW H) → Nat
  | [] => 0
  | x :: r => uptoBulkEntry x + uptoBulkEntries r
def uptoBulkEntry {H : Type} : Lit × DataW H → Nat
  | (.string bytes, d) => bytes.length + uptoBulk d + 1
  | (_, d) => uptoBulk d + 1
 end
def uptoSmall : (H : Type) → List (DataW H) → Bool := fun _ ds => decide (uptoBulkAll ds ≤ 1048576)
def OpenSpec.upto (s : _root_.Go.ChangeSpec) : _root_.Go.OpenSpec := { _root_.Go.OpenSpec.ofChange s with cond := some uptoSmall }

/-- 'homecominglaw16.PeopleVersions', WHERE WHAT IT READS IS OF BULK AT MOST 1048576: true; the input reads as it did. -/
def peopleVersionsUptoRow : OpenClaim := { program := "ytkihleecjgoipaadoor", sum := "dc8d9c3cebd059a05debe9cb969cbd8f6d5deb88282477933a2238f00251bfc5", func := "homecoming/homecominglaw16.PeopleVersions", spec := "peopleVersions", inPlace := ["internal/bytealg.IndexByteString", "internal/bytealg.IndexString", "internal/bytealg.CountString"], unfollowed := true, recurses := true, named := ["internal/bytealg.MaxLen", "unicode/utf8.first", "unicode/utf8.acceptRanges"], apart := false, laid := [("unicode/utf8.acceptRanges", laid_unicode_utf8_acceptRanges), ("unicode/utf8.first", laid_unicode_utf8_first)], narrowed := true }
def PeopleVersionsUptoSaid : Prop := peopleVersionsUptoRow.holds Tryd.pinned (OpenSpec.upto peopleVersionsSpec)

/-- 'homecominglaw16.PeopleLocks', WHERE WHAT IT READS IS OF BULK AT MOST 1048576: true; the input reads as it did. -/
def peopleLocksUptoRow : OpenClaim := { program := "ytkihleecjgoipaadoor", sum := "dc8d9c3cebd059a05debe9cb969cbd8f6d5deb88282477933a2238f00251bfc5", func := "homecoming/homecominglaw16.PeopleLocks", spec := "peopleLocks", inPlace := ["internal/bytealg.IndexByteString", "internal/bytealg.IndexString", "internal/bytealg.CountString"], unfollowed := true, recurses := true, named := ["internal/bytealg.MaxLen", "unicode/utf8.first", "unicode/utf8.acceptRanges"], apart := false, laid := [("unicode/utf8.acceptRanges", laid_unicode_utf8_acceptRanges), ("unicode/utf8.first", laid_unicode_utf8_first)], narrowed := true }
def PeopleLocksUptoSaid : Prop := peopleLocksUptoRow.holds Tryd.pinned (OpenSpec.upto peopleLocksSpec)

/-- 'homecominglaw16.PeopleSessions', WHERE WHAT IT READS IS OF BULK AT MOST 1048576: true; the input reads as it did. -/
def peopleSessionsUptoRow : OpenClaim := { program := "ytkihleecjgoipaadoor", sum := "dc8d9c3cebd059a05debe9cb969cbd8f6d5deb88282477933a2238f00251bfc5", func := "homecoming/homecominglaw16.PeopleSessions", spec := "peopleSessions", inPlace := ["internal/bytealg.IndexByteString", "internal/bytealg.IndexString", "internal/bytealg.CountString"], unfollowed := true, recurses := true, named := ["internal/bytealg.MaxLen", "unicode/utf8.first", "unicode/utf8.acceptRanges"], apart := false, laid := [("unicode/utf8.acceptRanges", laid_unicode_utf8_acceptRanges), ("unicode/utf8.first", laid_unicode_utf8_first)], narrowed := true }
def PeopleSessionsUptoSaid : Prop := peopleSessionsUptoRow.holds Tryd.pinned (OpenSpec.upto peopleSessionsSpec)

/-- 'homecominglaw16.PeopleApart', WHERE WHAT IT READS IS OF BULK AT MOST 1048576: true; the input reads as it did. -/
def peopleApartUptoRow : OpenClaim := { program := "ytkihleecjgoipaadoor", sum := "dc8d9c3cebd059a05debe9cb969cbd8f6d5deb88282477933a2238f00251bfc5", func := "homecoming/homecominglaw16.PeopleApart", spec := "peopleApart", inPlace := ["internal/bytealg.IndexByteString", "internal/bytealg.IndexString", "internal/bytealg.CountString"], unfollowed := true, recurses := true, named := ["internal/bytealg.MaxLen", "unicode/utf8.first", "unicode/utf8.acceptRanges"], apart := false, laid := [("unicode/utf8.acceptRanges", laid_unicode_utf8_acceptRanges), ("unicode/utf8.first", laid_unicode_utf8_first)], narrowed := true }
def PeopleApartUptoSaid : Prop := peopleApartUptoRow.holds Tryd.pinned (OpenSpec.upto peopleApartSpec)

/-- 'homecominglaw16.PeopleTold', WHERE WHAT IT READS IS OF BULK AT MOST 1048576: true; the input reads as it did. -/
def peopleToldUptoRow : OpenClaim := { program := "ytkihleecjgoipaadoor", sum := "dc8d9c3cebd059a05debe9cb969cbd8f6d5deb88282477933a2238f00251bfc5", func := "homecoming/homecominglaw16.PeopleTold", spec := "peopleTold", inPlace := ["internal/bytealg.IndexByteString", "internal/bytealg.IndexString", "internal/bytealg.CountString"], unfollowed := true, recurses := true, named := ["internal/bytealg.MaxLen", "unicode/utf8.first", "unicode/utf8.acceptRanges"], apart := false, laid := [("unicode/utf8.acceptRanges", laid_unicode_utf8_acceptRanges), ("unicode/utf8.first", laid_unicode_utf8_first)], narrowed := true }
def PeopleToldUptoSaid : Prop := peopleToldUptoRow.holds Tryd.pinned (OpenSpec.upto peopleToldSpec)

/-- 'homecominglaw16.PeopleStay', WHERE WHAT IT READS IS OF BULK AT MOST 1048576: true; the input reads as it did. -/
def peopleStayUptoRow : OpenClaim := { program := "ytkihleecjgoipaadoor", sum := "dc8d9c3cebd059a05debe9cb969cbd8f6d5deb88282477933a2238f00251bfc5", func := "homecoming/homecominglaw16.PeopleStay", spec := "peopleStay", inPlace := ["internal/bytealg.IndexByteString", "internal/bytealg.IndexString", "internal/bytealg.CountString"], unfollowed := true, recurses := true, named := ["internal/bytealg.MaxLen", "unicode/utf8.first", "unicode/utf8.acceptRanges"], apart := false, laid := [("unicode/utf8.acceptRanges", laid_unicode_utf8_acceptRanges), ("unicode/utf8.first", laid_unicode_utf8_first)], narrowed := true }
def PeopleStayUptoSaid : Prop := peopleStayUptoRow.holds Tryd.pinned (OpenSpec.upto peopleStaySpec)

end Rows
end Go.Proofs.YtkihleecjgoipaaDoor
