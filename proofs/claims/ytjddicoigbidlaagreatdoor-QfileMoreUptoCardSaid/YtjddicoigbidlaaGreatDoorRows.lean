/-
  NARROWER THAN 'FOR EVERY INPUT', by the rows' own cells (each row's printed sentence says how): EnvEncodes: laid · EnvDecodes: laid · EnvCut: laid · EnvOwn: laid · QfileParses: laid · QfileAny: laid · QfileTorn: laid · QfileMore: laid · QfileFates: laid.
  DERIVED. THE GIVEN ROWS OF THIS SEAT. 9 by the template 'for every input the law returns true; each argument reads behind the call as it read before'; 0 by the template 'total and deterministic' (their statements: YtjddicoigbidlaaGreatDoorTotals.lean).
  GIVEN WITH THE SEED: the statements are not yours to turn. If you find one false, say at which input.
  Laid BY PROGRAM, IN A SANDBOX (cutbox-rows.mjs): the forced cells as the released guide's own fill.sh prints them over the translation 9ced89ac6005eba7… (all of the seat's roots in one cut). By AI agents, Wed Nov 11 2026. No macro, syntax, notation, axiom, sorry.
-/
import Derived.Test.YtjddicoigbidlaaGreatDoorChecked
import GoSem.PinnedTables
import GoSem.Claim
import GoSem.ClaimJoined
import GoSem.ClaimMapViews
import Derived.JoinedTies
import Derived.KernelRfl
namespace Go.Proofs.YtjddicoigbidlaaGreatDoor
/- THE CELL 'sum', in the pinned program and in every row, IS THE sha256 OF THE DUMP (.gsa) THAT YtjddicoigbidlaaGreatDoorProg.lean LOADS. Nothing in Lean hashes anything: it is a label: what it is worth is what the hold of that sum in a sandbox is worth. -/
noncomputable def Tryz.pinned : Pinned := { name := "ytjddicoigbidlaagreatdoor", sum := "9ced89ac6005eba7dad40b735ab9bbc94af94187afbf6da6c2fa8bf28bf73a39", checked := Tryz.checked }
namespace Rows
def none {H : Type} : Left H := { results := [], args := [] }

/- WHAT THE LISTED PACKAGE-LEVEL VARIABLES READ AS WHEN THE CALL BEGINS. Each datum BY PROGRAM (the guide's laid-datum.mjs) off the statement by which the dump's own 'gosem.cut.vars' lays the variable. In a bare row this is a premise. The card (YtjddicoigbidlaaGreatDoorCards.lean) ties it to the program's text. -/
def laid_unicode_utf8_acceptRanges {H : Type} : DataW H := .agg [.agg [.lit (.int .u8 128), .lit (.int .u8 191)], .agg [.lit (.int .u8 160), .lit (.int .u8 191)], .agg [.lit (.int .u8 128), .lit (.int .u8 159)], .agg [.lit (.int .u8 144), .lit (.int .u8 191)], .agg [.lit (.int .u8 128), .lit (.int .u8 143)], .agg [.lit (.int .u8 0), .lit (.int .u8 0)], .agg [.lit (.int .u8 0), .lit (.int .u8 0)], .agg [.lit (.int .u8 0), .lit (.int .u8 0)], .agg [.lit (.int .u8 0), .lit (.int .u8 0)], .agg [.lit (.int .u8 0), .lit (.int .u8 0)], .agg [.lit (.int .u8 0), .lit (.int .u8 0)], .agg [.lit (.int .u8 0), .lit (.int .u8 0)], .agg [.lit (.int .u8 0), .lit (.int .u8 0)], .agg [.lit (.int .u8 0), .lit (.int .u8 0)], .agg [.lit (.int .u8 0), .lit (.int .u8 0)], .agg [.lit (.int .u8 0), .lit (.int .u8 0)]]
/-- One of Go's own tables, pinned by name: the form's constant. -/
def laid_unicode_CaseRanges : DataW Unit := Go.Pinned.caseRanges
/-- One of Go's own tables, pinned by name: the form's constant. -/
def laid_unicode_utf8_first : DataW Unit := Go.Pinned.utf8First

/-- 'pillarboxlaw10.EnvEncodes': WHATEVER THE INPUT: true; the input reads as it did. -/
def envEncodesSpec : ChangeSpec := { name := "envEncodes", fn := fun _ => fun
  | [d1, d2] => { results := [.lit (.bool true)], args := [d1, d2] }
  | _ => none }
def envEncodesRow : OpenClaim := { program := "ytjddicoigbidlaagreatdoor", sum := "9ced89ac6005eba7dad40b735ab9bbc94af94187afbf6da6c2fa8bf28bf73a39", func := "pillarbox/pillarboxlaw10.EnvEncodes", spec := "envEncodes", inPlace := ["internal/bytealg.IndexByteString", "internal/bytealg.IndexString", "internal/bytealg.CountString", "internal/abi.NoEscape", "internal/bytealg.MakeNoZero"], unfollowed := true, recurses := true, named := ["internal/bytealg.MaxLen", "unicode/utf8.first", "unicode/utf8.acceptRanges", "unicode.CaseRanges"], apart := false, laid := [("unicode/utf8.acceptRanges", laid_unicode_utf8_acceptRanges), ("unicode.CaseRanges", laid_unicode_CaseRanges), ("unicode/utf8.first", laid_unicode_utf8_first)] }
def EnvEncodesSaid : Prop := envEncodesRow.holds Tryz.pinned (OpenSpec.ofChange envEncodesSpec)

/-- ITS FALSE NEIGHBOUR: 'it returns false'. Refute it at one input. -/
def envEncodesWrong : ChangeSpec := { name := "envEncodes", fn := fun _ => fun
  | [d1, d2] => { results := [.lit (.bool false)], args := [d1, d2] }
  | _ => none }
def EnvEncodesWrongFalsely : Prop := envEncodesRow.holds Tryz.pinned (OpenSpec.ofChange envEncodesWrong)

/-- 'pillarboxlaw10.EnvDecodes': WHATEVER THE INPUT: true; the input reads as it did. -/
def envDecodesSpec : ChangeSpec := { name := "envDecodes", fn := fun _ => fun
  | [d] => { results := [.lit (.bool true)], args := [d] }
  | _ => none }
def envDecodesRow : OpenClaim := { program := "ytjddicoigbidlaagreatdoor", sum := "9ced89ac6005eba7dad40b735ab9bbc94af94187afbf6da6c2fa8bf28bf73a39", func := "pillarbox/pillarboxlaw10.EnvDecodes", spec := "envDecodes", inPlace := ["internal/bytealg.IndexByteString", "internal/bytealg.IndexString", "internal/bytealg.CountString", "internal/abi.NoEscape", "internal/bytealg.MakeNoZero"], unfollowed := true, recurses := true, named := ["internal/bytealg.MaxLen", "unicode/utf8.first", "unicode/utf8.acceptRanges", "unicode.CaseRanges"], apart := false, laid := [("unicode/utf8.acceptRanges", laid_unicode_utf8_acceptRanges), ("unicode.CaseRanges", laid_unicode_CaseRanges), ("unicode/utf8.first", laid_unicode_utf8_first)] }
def EnvDecodesSaid : Prop := envDecodesRow.holds Tryz.pinned (OpenSpec.ofChange envDecodesSpec)

/-- ITS FALSE NEIGHBOUR: 'it returns false'. Refute it at one input. -/
def envDecodesWrong : ChangeSpec := { name := "envDecodes", fn := fun _ => fun
  | [d] => { results := [.lit (.bool false)], args := [d] }
  | _ => none }
def EnvDecodesWrongFalsely : Prop := envDecodesRow.holds Tryz.pinned (OpenSpec.ofChange envDecodesWrong)

/-- 'pillarboxlaw10.EnvCut': WHATEVER THE INPUT: true; the input reads as it did. -/
def envCutSpec : ChangeSpec := { name := "envCut", fn := fun _ => fun
  | [d1, d2, d3] => { results := [.lit (.bool true)], args := [d1, d2, d3] }
  | _ => none }
def envCutRow : OpenClaim := { program := "ytjddicoigbidlaagreatdoor", sum := "9ced89ac6005eba7dad40b735ab9bbc94af94187afbf6da6c2fa8bf28bf73a39", func := "pillarbox/pillarboxlaw10.EnvCut", spec := "envCut", inPlace := ["internal/bytealg.IndexByteString", "internal/bytealg.IndexString", "internal/bytealg.CountString", "internal/abi.NoEscape", "internal/bytealg.MakeNoZero"], unfollowed := true, recurses := true, named := ["internal/bytealg.MaxLen", "unicode/utf8.first", "unicode/utf8.acceptRanges", "unicode.CaseRanges"], apart := false, laid := [("unicode/utf8.acceptRanges", laid_unicode_utf8_acceptRanges), ("unicode.CaseRanges", laid_unicode_CaseRanges), ("unicode/utf8.first", laid_unicode_utf8_first)] }
def EnvCutSaid : Prop := envCutRow.holds Tryz.pinned (OpenSpec.ofChange envCutSpec)

/-- ITS FALSE NEIGHBOUR: 'it returns false'. Refute it at one input. -/
def envCutWrong : ChangeSpec := { name := "envCut", fn := fun _ => fun
  | [d1, d2, d3] => { results := [.lit (.bool false)], args := [d1, d2, d3] }
  | _ => none }
def EnvCutWrongFalsely : Prop := envCutRow.holds Tryz.pinned (OpenSpec.ofChange envCutWrong)

/-- 'pillarboxlaw10.EnvOwn': WHATEVER THE INPUT: true; the input reads as it did. -/
def envOwnSpec : ChangeSpec := { name := "envOwn", fn := fun _ => fun
  | [d] => { results := [.lit (.bool true)], args := [d] }
  | _ => none }
def envOwnRow : OpenClaim := { program := "ytjddicoigbidlaagreatdoor", sum := "9ced89ac6005eba7dad40b735ab9bbc94af94187afbf6da6c2fa8bf28bf73a39", func := "pillarbox/pillarboxlaw10.EnvOwn", spec := "envOwn", inPlace := ["internal/bytealg.IndexByteString", "internal/bytealg.IndexString", "internal/bytealg.CountString", "internal/abi.NoEscape", "internal/bytealg.MakeNoZero"], unfollowed := true, recurses := true, named := ["internal/bytealg.MaxLen", "unicode/utf8.first", "unicode/utf8.acceptRanges", "unicode.CaseRanges"], apart := false, laid := [("unicode/utf8.acceptRanges", laid_unicode_utf8_acceptRanges), ("unicode.CaseRanges", laid_unicode_CaseRanges), ("unicode/utf8.first", laid_unicode_utf8_first)] }
def EnvOwnSaid : Prop := envOwnRow.holds Tryz.pinned (OpenSpec.ofChange envOwnSpec)

/-- ITS FALSE NEIGHBOUR: 'it returns false'. Refute it at one input. -/
def envOwnWrong : ChangeSpec := { name := "envOwn", fn := fun _ => fun
  | [d] => { results := [.lit (.bool false)], args := [d] }
  | _ => none }
def EnvOwnWrongFalsely : Prop := envOwnRow.holds Tryz.pinned (OpenSpec.ofChange envOwnWrong)

/-- 'pillarboxlaw12.QfileParses': WHATEVER THE INPUT: true; the input reads as it did. -/
def qfileParsesSpec : ChangeSpec := { name := "qfileParses", fn := fun _ => fun
  | [d1, d2, d3] => { results := [.lit (.bool true)], args := [d1, d2, d3] }
  | _ => none }
def qfileParsesRow : OpenClaim := { program := "ytjddicoigbidlaagreatdoor", sum := "9ced89ac6005eba7dad40b735ab9bbc94af94187afbf6da6c2fa8bf28bf73a39", func := "pillarbox/pillarboxlaw12.QfileParses", spec := "qfileParses", inPlace := ["internal/bytealg.IndexByteString", "internal/bytealg.IndexString", "internal/bytealg.CountString", "internal/abi.NoEscape", "internal/bytealg.MakeNoZero"], unfollowed := true, recurses := true, named := ["internal/bytealg.MaxLen", "unicode/utf8.first", "unicode/utf8.acceptRanges", "unicode.CaseRanges"], apart := false, laid := [("unicode/utf8.acceptRanges", laid_unicode_utf8_acceptRanges), ("unicode.CaseRanges", laid_unicode_CaseRanges), ("unicode/utf8.first", laid_unicode_utf8_first)] }
def QfileParsesSaid : Prop := qfileParsesRow.holds Tryz.pinned (OpenSpec.ofChange qfileParsesSpec)

/-- ITS FALSE NEIGHBOUR: 'it returns false'. Refute it at one input. -/
def qfileParsesWrong : ChangeSpec := { name := "qfileParses", fn := fun _ => fun
  | [d1, d2, d3] => { results := [.lit (.bool false)], args := [d1, d2, d3] }
  | _ => none }
def QfileParsesWrongFalsely : Prop := qfileParsesRow.holds Tryz.pinned (OpenSpec.ofChange qfileParsesWrong)

/-- 'pillarboxlaw12.QfileAny': WHATEVER THE INPUT: true; the input reads as it did. -/
def qfileAnySpec : ChangeSpec := { name := "qfileAny", fn := fun _ => fun
  | [d] => { results := [.lit (.bool true)], args := [d] }
  | _ => none }
def qfileAnyRow : OpenClaim := { program := "ytjddicoigbidlaagreatdoor", sum := "9ced89ac6005eba7dad40b735ab9bbc94af94187afbf6da6c2fa8bf28bf73a39", func := "pillarbox/pillarboxlaw12.QfileAny", spec := "qfileAny", inPlace := ["internal/bytealg.IndexByteString", "internal/bytealg.IndexString", "internal/bytealg.CountString", "internal/abi.NoEscape", "internal/bytealg.MakeNoZero"], unfollowed := true, recurses := true, named := ["internal/bytealg.MaxLen", "unicode/utf8.first", "unicode/utf8.acceptRanges", "unicode.CaseRanges"], apart := false, laid := [("unicode/utf8.acceptRanges", laid_unicode_utf8_acceptRanges), ("unicode.CaseRanges", laid_unicode_CaseRanges), ("unicode/utf8.first", laid_unicode_utf8_first)] }
def QfileAnySaid : Prop := qfileAnyRow.holds Tryz.pinned (OpenSpec.ofChange qfileAnySpec)

/-- ITS FALSE NEIGHBOUR: 'it returns false'. Refute it at one input. -/
def qfileAnyWrong : ChangeSpec := { name := "qfileAny", fn := fun _ => fun
  | [d] => { results := [.lit (.bool false)], args := [d] }
  | _ => none }
def QfileAnyWrongFalsely : Prop := qfileAnyRow.holds Tryz.pinned (OpenSpec.ofChange qfileAnyWrong)

/-- 'pillarboxlaw12.QfileTorn': WHATEVER THE INPUT: true; the input reads as it did. -/
def qfileTornSpec : ChangeSpec := { name := "qfileTorn", fn := fun _ => fun
  | [d1, d2, d3] => { results := [.lit (.bool true)], args := [d1, d2, d3] }
  | _ => none }
def qfileTornRow : OpenClaim := { program := "ytjddicoigbidlaagreatdoor", sum := "9ced89ac6005eba7dad40b735ab9bbc94af94187afbf6da6c2fa8bf28bf73a39", func := "pillarbox/pillarboxlaw12.QfileTorn", spec := "qfileTorn", inPlace := ["internal/bytealg.IndexByteString", "internal/bytealg.IndexString", "internal/bytealg.CountString", "internal/abi.NoEscape", "internal/bytealg.MakeNoZero"], unfollowed := true, recurses := true, named := ["internal/bytealg.MaxLen", "unicode/utf8.first", "unicode/utf8.acceptRanges", "unicode.CaseRanges"], apart := false, laid := [("unicode/utf8.acceptRanges", laid_unicode_utf8_acceptRanges), ("unicode.CaseRanges", laid_unicode_CaseRanges), ("unicode/utf8.first", laid_unicode_utf8_first)] }
def QfileTornSaid : Prop := qfileTornRow.holds Tryz.pinned (OpenSpec.ofChange qfileTornSpec)

/-- ITS FALSE NEIGHBOUR: 'it returns false'. Refute it at one input. -/
def qfileTornWrong : ChangeSpec := { name := "qfileTorn", fn := fun _ => fun
  | [d1, d2, d3] => { results := [.lit (.bool false)], args := [d1, d2, d3] }
  | _ => none }
def QfileTornWrongFalsely : Prop := qfileTornRow.holds Tryz.pinned (OpenSpec.ofChange qfileTornWrong)

/-- 'pillarboxlaw12.QfileMore': WHATEVER THE INPUT: true; the input reads as it did. -/
def qfileMoreSpec : ChangeSpec := { name := "qfileMore", fn := fun _ => fun
  | [d1, d2, d3] => { results := [.lit (.bool true)], args := [d1, d2, d3] }
  | _ => none }
def qfileMoreRow : OpenClaim := { program := "ytjddicoigbidlaagreatdoor", sum := "9ced89ac6005eba7dad40b735ab9bbc94af94187afbf6da6c2fa8bf28bf73a39", func := "pillarbox/pillarboxlaw12.QfileMore", spec := "qfileMore", inPlace := ["internal/bytealg.IndexByteString", "internal/bytealg.IndexString", "internal/bytealg.CountString", "internal/abi.NoEscape", "internal/bytealg.MakeNoZero"], unfollowed := true, recurses := true, named := ["internal/bytealg.MaxLen", "unicode/utf8.first", "unicode/utf8.acceptRanges", "unicode.CaseRanges"], apart := false, laid := [("unicode/utf8.acceptRanges", laid_unicode_utf8_acceptRanges), ("unicode.CaseRanges", laid_unicode_CaseRanges), ("unicode/utf8.first", laid_unicode_utf8_first)] }
def QfileMoreSaid : Prop := qfileMoreRow.holds Tryz.pinned (OpenSpec.ofChange qfileMoreSpec)

/-- ITS FALSE NEIGHBOUR: 'it returns false'. Refute it at one input. -/
def qfileMoreWrong : ChangeSpec := { name := "qfileMore", fn := fun _ => fun
  | [d1, d2, d3] => { results := [.lit (.bool false)], args := [d1, d2, d3] }
  | _ => none }
def QfileMoreWrongFalsely : Prop := qfileMoreRow.holds Tryz.pinned (OpenSpec.ofChange qfileMoreWrong)

/-- 'pillarboxlaw12.QfileFates': WHATEVER THE INPUT: true; the input reads as it did. -/
def qfileFatesSpec : ChangeSpec := { name := "qfileFates", fn := fun _ => fun
  | [d1, d2] => { results := [.lit (.bool true)], args := [d1, d2] }
  | _ => none }
def qfileFatesRow : OpenClaim := { program := "ytjddicoigbidlaagreatdoor", sum := "9ced89ac6005eba7dad40b735ab9bbc94af94187afbf6da6c2fa8bf28bf73a39", func := "pillarbox/pillarboxlaw12.QfileFates", spec := "qfileFates", inPlace := ["internal/bytealg.IndexByteString", "internal/bytealg.IndexString", "internal/bytealg.CountString", "internal/abi.NoEscape", "internal/bytealg.MakeNoZero"], unfollowed := true, recurses := true, named := ["internal/bytealg.MaxLen", "unicode/utf8.first", "unicode/utf8.acceptRanges", "unicode.CaseRanges"], apart := false, laid := [("unicode/utf8.acceptRanges", laid_unicode_utf8_acceptRanges), ("unicode.CaseRanges", laid_unicode_CaseRanges), ("unicode/utf8.first", laid_unicode_utf8_first)] }
def QfileFatesSaid : Prop := qfileFatesRow.holds Tryz.pinned (OpenSpec.ofChange qfileFatesSpec)

/-- ITS FALSE NEIGHBOUR: 'it returns false'. Refute it at one input. -/
def qfileFatesWrong : ChangeSpec := { name := "qfileFates", fn := fun _ => fun
  | [d1, d2] => { results := [.lit (.bool false)], args := [d1, d2] }
  | _ => none }
def QfileFatesWrongFalsely : Prop := qfileFatesRow.holds Tryz.pinned (OpenSpec.ofChange qfileFatesWrong)

/- THE SECOND FORM. 'bulk': how many values and letters a reading holds, each counted each time it is reached (what is shared counts as often as it is met; a slice's spare places count too). A statement '..UptoSaid' is the law's where the arguments, and the package variables that the reading takes, are together of bulk at most 1048576: NARROWER than '..Said'. Prove '..Said' where nothing that the law and all that it calls make is longer than what came in: it says more and counts as full. Else prove '..UptoSaid'. A law counts once. -/
mutual
def uptoBulk {H : Type} : DataW H → Nat
  | .lit (.string bytes) => bytes.length + 1
  | .lit _ => 1
  | .nil => 1
  | .ptr d => uptoBulk d + 1
  | .slice elems spare => uptoBulkAll elems + uptoBulkAll spare + 1
  | .agg parts => uptoBulkAll parts + 1
  | .iface _ d => uptoBulk d + 1
  | .map entries => uptoBulkEntries entries + 1
  | .held _ => 1
def uptoBulkAll {H : Type} : List (DataW H) → Nat
  | [] => 0
  | d :: r => uptoBulk d + uptoBulkAll r
def uptoBulkEntries {H : Type} : List (Lit × DataW H) → Nat
  | [] => 0
  | x :: r => uptoBulkEntry x + uptoBulkEntries r
def uptoBulkEntry {H : Type} : Lit × DataW H → Nat
  | (.string bytes, d) => bytes.length + uptoBulk d + 1
  | (_, d) => uptoBulk d + 1
 end
def uptoSmall : (H : Type) → List (DataW H) → Bool := fun _ ds => decide (uptoBulkAll ds ≤ 1048576)
def OpenSpec.upto (s : _root_.Go.ChangeSpec) : _root_.Go.OpenSpec := { _root_.Go.OpenSpec.ofChange s with cond := some uptoSmall }

/-- 'pillarboxlaw10.EnvEncodes', WHERE WHAT IT READS IS OF BULK AT MOST 1048576: true; the input reads as it did. -/
def envEncodesUptoRow : OpenClaim := { program := "ytjddicoigbidlaagreatdoor", sum := "9ced89ac6005eba7dad40b735ab9bbc94af94187afbf6da6c2fa8bf28bf73a39", func := "pillarbox/pillarboxlaw10.EnvEncodes", spec := "envEncodes", inPlace := ["internal/bytealg.IndexByteString", "internal/bytealg.IndexString", "internal/bytealg.CountString", "internal/abi.NoEscape", "internal/bytealg.MakeNoZero"], unfollowed := true, recurses := true, named := ["internal/bytealg.MaxLen", "unicode/utf8.first", "unicode/utf8.acceptRanges", "unicode.CaseRanges"], apart := false, laid := [("unicode/utf8.acceptRanges", laid_unicode_utf8_acceptRanges), ("unicode.CaseRanges", laid_unicode_CaseRanges), ("unicode/utf8.first", laid_unicode_utf8_first)], narrowed := true }
def EnvEncodesUptoSaid : Prop := envEncodesUptoRow.holds Tryz.pinned (OpenSpec.upto envEncodesSpec)

/-- 'pillarboxlaw10.EnvDecodes', WHERE WHAT IT READS IS OF BULK AT MOST 1048576: true; the input reads as it did. -/
def envDecodesUptoRow : OpenClaim := { program := "ytjddicoigbidlaagreatdoor", sum := "9ced89ac6005eba7dad40b735ab9bbc94af94187afbf6da6c2fa8bf28bf73a39", func := "pillarbox/pillarboxlaw10.EnvDecodes", spec := "envDecodes", inPlace := ["internal/bytealg.IndexByteString", "internal/bytealg.IndexString", "internal/bytealg.CountString", "internal/abi.NoEscape", "internal/bytealg.MakeNoZero"], unfollowed := true, recurses := true, named := ["internal/bytealg.MaxLen", "unicode/utf8.first", "unicode/utf8.acceptRanges", "unicode.CaseRanges"], apart := false, laid := [("unicode/utf8.acceptRanges", laid_unicode_utf8_acceptRanges), ("unicode.CaseRanges", laid_unicode_CaseRanges), ("unicode/utf8.first", laid_unicode_utf8_first)], narrowed := true }
def EnvDecodesUptoSaid : Prop := envDecodesUptoRow.holds Tryz.pinned (OpenSpec.upto envDecodesSpec)

/-- 'pillarboxlaw10.EnvCut', WHERE WHAT IT READS IS OF BULK AT MOST 1048576: true; the input reads as it did. -/
def envCutUptoRow : OpenClaim := { program := "ytjddicoigbidlaagreatdoor", sum := "9ced89ac6005eba7dad40b735ab9bbc94af94187afbf6da6c2fa8bf28bf73a39", func := "pillarbox/pillarboxlaw10.EnvCut", spec := "envCut", inPlace := ["internal/bytealg.IndexByteString", "internal/bytealg.IndexString", "internal/bytealg.CountString", "internal/abi.NoEscape", "internal/bytealg.MakeNoZero"], unfollowed := true, recurses := true, named := ["internal/bytealg.MaxLen", "unicode/utf8.first", "unicode/utf8.acceptRanges", "unicode.CaseRanges"], apart := false, laid := [("unicode/utf8.acceptRanges", laid_unicode_utf8_acceptRanges), ("unicode.CaseRanges", laid_unicode_CaseRanges), ("unicode/utf8.first", laid_unicode_utf8_first)], narrowed := true }
def EnvCutUptoSaid : Prop := envCutUptoRow.holds Tryz.pinned (OpenSpec.upto envCutSpec)

/-- 'pillarboxlaw10.EnvOwn', WHERE WHAT IT READS IS OF BULK AT MOST 1048576: true; the input reads as it did. -/
def envOwnUptoRow : OpenClaim := { program := "ytjddicoigbidlaagreatdoor", sum := "9ced89ac6005eba7dad40b735ab9bbc94af94187afbf6da6c2fa8bf28bf73a39", func := "pillarbox/pillarboxlaw10.EnvOwn", spec := "envOwn", inPlace := ["internal/bytealg.IndexByteString", "internal/bytealg.IndexString", "internal/bytealg.CountString", "internal/abi.NoEscape", "internal/bytealg.MakeNoZero"], unfollowed := true, recurses := true, named := ["internal/bytealg.MaxLen", "unicode/utf8.first", "unicode/utf8.acceptRanges", "unicode.CaseRanges"], apart := false, laid := [("unicode/utf8.acceptRanges", laid_unicode_utf8_acceptRanges), ("unicode.CaseRanges", laid_unicode_CaseRanges), ("unicode/utf8.first", laid_unicode_utf8_first)], narrowed := true }
def EnvOwnUptoSaid : Prop := envOwnUptoRow.holds Tryz.pinned (OpenSpec.upto envOwnSpec)

/-- 'pillarboxlaw12.QfileParses', WHERE WHAT IT READS IS OF BULK AT MOST 1048576: true; the input reads as it did. -/
def qfileParsesUptoRow : OpenClaim := { program := "ytjddicoigbidlaagreatdoor", sum := "9ced89ac6005eba7dad40b735ab9bbc94af94187afbf6da6c2fa8bf28bf73a39", func := "pillarbox/pillarboxlaw12.QfileParses", spec := "qfileParses", inPlace := ["internal/bytealg.IndexByteString", "internal/bytealg.IndexString", "internal/bytealg.CountString", "internal/abi.NoEscape", "internal/bytealg.MakeNoZero"], unfollowed := true, recurses := true, named := ["internal/bytealg.MaxLen", "unicode/utf8.first", "unicode/utf8.acceptRanges", "unicode.CaseRanges"], apart := false, laid := [("unicode/utf8.acceptRanges", laid_unicode_utf8_acceptRanges), ("unicode.CaseRanges", laid_unicode_CaseRanges), ("unicode/utf8.first", laid_unicode_utf8_first)], narrowed := true }
def QfileParsesUptoSaid : Prop := qfileParsesUptoRow.holds Tryz.pinned (OpenSpec.upto qfileParsesSpec)

/-- 'pillarboxlaw12.QfileAny', WHERE WHAT IT READS IS OF BULK AT MOST 1048576: true; the input reads as it did. -/
def qfileAnyUptoRow : OpenClaim := { program := "ytjddicoigbidlaagreatdoor", sum := "9ced89ac6005eba7dad40b735ab9bbc94af94187afbf6da6c2fa8bf28bf73a39", func := "pillarbox/pillarboxlaw12.QfileAny", spec := "qfileAny", inPlace := ["internal/bytealg.IndexByteString", "internal/bytealg.IndexString", "internal/bytealg.CountString", "internal/abi.NoEscape", "internal/bytealg.MakeNoZero"], unfollowed := true, recurses := true, named := ["internal/bytealg.MaxLen", "unicode/utf8.first", "unicode/utf8.acceptRanges", "unicode.CaseRanges"], apart := false, laid := [("unicode/utf8.acceptRanges", laid_unicode_utf8_acceptRanges), ("unicode.CaseRanges", laid_unicode_CaseRanges), ("unicode/utf8.first", laid_unicode_utf8_first)], narrowed := true }
def QfileAnyUptoSaid : Prop := qfileAnyUptoRow.holds Tryz.pinned (OpenSpec.upto qfileAnySpec)

/-- 'pillarboxlaw12.QfileTorn', WHERE WHAT IT READS IS OF BULK AT MOST 1048576: true; the input reads as it did. -/
def qfileTornUptoRow : OpenClaim := { program := "ytjddicoigbidlaagreatdoor", sum := "9ced89ac6005eba7dad40b735ab9bbc94af94187afbf6da6c2fa8bf28bf73a39", func := "pillarbox/pillarboxlaw12.QfileTorn", spec := "qfileTorn", inPlace := ["internal/bytealg.IndexByteString", "internal/bytealg.IndexString", "internal/bytealg.CountString", "internal/abi.NoEscape", "internal/bytealg.MakeNoZero"], unfollowed := true, recurses := true, named := ["internal/bytealg.MaxLen", "unicode/utf8.first", "unicode/utf8.acceptRanges", "unicode.CaseRanges"], apart := false, laid := [("unicode/utf8.acceptRanges", laid_unicode_utf8_acceptRanges), ("unicode.CaseRanges", laid_unicode_CaseRanges), ("unicode/utf8.first", laid_unicode_utf8_first)], narrowed := true }
def QfileTornUptoSaid : Prop := qfileTornUptoRow.holds Tryz.pinned (OpenSpec.upto qfileTornSpec)

/-- 'pillarboxlaw12.QfileMore', WHERE WHAT IT READS IS OF BULK AT MOST 1048576: true; the input reads as it did. -/
def qfileMoreUptoRow : OpenClaim := { program := "ytjddicoigbidlaagreatdoor", sum := "9ced89ac6005eba7dad40b735ab9bbc94af94187afbf6da6c2fa8bf28bf73a39", func := "pillarbox/pillarboxlaw12.QfileMore", spec := "qfileMore", inPlace := ["internal/bytealg.IndexByteString", "internal/bytealg.IndexString", "internal/bytealg.CountString", "internal/abi.NoEscape", "internal/bytealg.MakeNoZero"], unfollowed := true, recurses := true, named := ["internal/bytealg.MaxLen", "unicode/utf8.first", "unicode/utf8.acceptRanges", "unicode.CaseRanges"], apart := false, laid := [("unicode/utf8.acceptRanges", laid_unicode_utf8_acceptRanges), ("unicode.CaseRanges", laid_unicode_CaseRanges), ("unicode/utf8.first", laid_unicode_utf8_first)], narrowed := true }
def QfileMoreUptoSaid : Prop := qfileMoreUptoRow.holds Tryz.pinned (OpenSpec.upto qfileMoreSpec)

/-- 'pillarboxlaw12.QfileFates', WHERE WHAT IT READS IS OF BULK AT MOST 1048576: true; the input reads as it did. -/
def qfileFatesUptoRow : OpenClaim := { program := "ytjddicoigbidlaagreatdoor", sum := "9ced89ac6005eba7dad40b735ab9bbc94af94187afbf6da6c2fa8bf28bf73a39", func := "pillarbox/pillarboxlaw12.QfileFates", spec := "qfileFates", inPlace := ["internal/bytealg.IndexByteString", "internal/bytealg.IndexString", "internal/bytealg.CountString", "internal/abi.NoEscape", "internal/bytealg.MakeNoZero"], unfollowed := true, recurses := true, named := ["internal/bytealg.MaxLen", "unicode/utf8.first", "unicode/utf8.acceptRanges", "unicode.CaseRanges"], apart := false, laid := [("unicode/utf8.acceptRanges", laid_unicode_utf8_acceptRanges), ("unicode.CaseRanges", laid_unicode_CaseRanges), ("unicode/utf8.first", laid_unicode_utf8_first)], narrowed := true }
def QfileFatesUptoSaid : Prop := qfileFatesUptoRow.holds Tryz.pinned (OpenSpec.upto qfileFatesSpec)

end Rows
end Go.Proofs.YtjddicoigbidlaaGreatDoor
