/-
  No cell of these rows narrows 'for every input' (looked for: loops, veiled, ifaces, maps, wideKeys, modest, calm, conditions, laid).
  DERIVED. THE GIVEN ROWS OF THIS SEAT. 10 by the template 'for every input the law returns true; each argument reads behind the call as it read before'; 0 by the template 'total and deterministic' (their statements: YtfgmnachckbimaaTotals.lean).
  GIVEN WITH THE SEED: the statements are not yours to turn. If you find one false, say at which input.
  Laid BY PROGRAM, IN A SANDBOX (cutbox-rows.mjs): the forced cells as the released guide's own fill.sh prints them over the translation f2ff0115f631c49d… (all of the seat's roots in one cut). By AI agents, Wed Nov 11 2026. No macro, syntax, notation, axiom, sorry.
-/
import Derived.Test.YtfgmnachckbimaaChecked
import GoSem.Claim
import GoSem.ClaimJoined
import GoSem.ClaimMapViews
import Derived.JoinedTies
import Derived.KernelRfl
namespace Go.Proofs.Ytfgmnachckbimaa
/- THE CELL 'sum', in the pinned program and in every row, IS THE sha256 OF THE DUMP (.gsa) THAT YtfgmnachckbimaaProg.lean LOADS. Nothing in Lean hashes anything: it is a label: what it is worth is what the hold of that sum in a sandbox is worth. -/
noncomputable def Try.pinned : Pinned := { name := "ytfgmnachckbimaa", sum := "f2ff0115f631c49d6566006772c6a5a6f5712b63ff5f592bb17c672376f63813", checked := Try.checked }
namespace Rows
def none {H : Type} : Left H := { results := [], args := [] }

/-- 'pillarboxlaw02.CrcSums': WHATEVER THE INPUT: true; the input reads as it did. -/
def crcSumsSpec : ChangeSpec := { name := "crcSums", fn := fun _ => fun
  | [d] => { results := [.lit (.bool true)], args := [d] }
  | _ => none }
def crcSumsRow : OpenClaim := { program := "ytfgmnachckbimaa", sum := "f2ff0115f631c49d6566006772c6a5a6f5712b63ff5f592bb17c672376f63813", func := "pillarbox/pillarboxlaw02.CrcSums", spec := "crcSums", apart := false }
def CrcSumsSaid : Prop := crcSumsRow.holds Try.pinned (OpenSpec.ofChange crcSumsSpec)

/-- ITS FALSE NEIGHBOUR: 'it returns false'. Refute it at one input. -/
def crcSumsWrong : ChangeSpec := { name := "crcSums", fn := fun _ => fun
  | [d] => { results := [.lit (.bool false)], args := [d] }
  | _ => none }
def CrcSumsWrongFalsely : Prop := crcSumsRow.holds Try.pinned (OpenSpec.ofChange crcSumsWrong)

/-- 'pillarboxlaw02.CrcTable': WHATEVER THE INPUT: true; the input reads as it did. -/
def crcTableSpec : ChangeSpec := { name := "crcTable", fn := fun _ => fun
  | [d] => { results := [.lit (.bool true)], args := [d] }
  | _ => none }
def crcTableRow : OpenClaim := { program := "ytfgmnachckbimaa", sum := "f2ff0115f631c49d6566006772c6a5a6f5712b63ff5f592bb17c672376f63813", func := "pillarbox/pillarboxlaw02.CrcTable", spec := "crcTable", apart := false }
def CrcTableSaid : Prop := crcTableRow.holds Try.pinned (OpenSpec.ofChange crcTableSpec)

/-- ITS FALSE NEIGHBOUR: 'it returns false'. Refute it at one input. -/
def crcTableWrong : ChangeSpec := { name := "crcTable", fn := fun _ => fun
  | [d] => { results := [.lit (.bool false)], args := [d] }
  | _ => none }
def CrcTableWrongFalsely : Prop := crcTableRow.holds Try.pinned (OpenSpec.ofChange crcTableWrong)

/-- 'pillarboxlaw02.CrcTells': WHATEVER THE INPUT: true; the input reads as it did. -/
def crcTellsSpec : ChangeSpec := { name := "crcTells", fn := fun _ => fun
  | [d1, d2, d3, d4] => { results := [.lit (.bool true)], args := [d1, d2, d3, d4] }
  | _ => none }
def crcTellsRow : OpenClaim := { program := "ytfgmnachckbimaa", sum := "f2ff0115f631c49d6566006772c6a5a6f5712b63ff5f592bb17c672376f63813", func := "pillarbox/pillarboxlaw02.CrcTells", spec := "crcTells", apart := false }
def CrcTellsSaid : Prop := crcTellsRow.holds Try.pinned (OpenSpec.ofChange crcTellsSpec)

/-- ITS FALSE NEIGHBOUR: 'it returns false'. Refute it at one input. -/
def crcTellsWrong : ChangeSpec := { name := "crcTells", fn := fun _ => fun
  | [d1, d2, d3, d4] => { results := [.lit (.bool false)], args := [d1, d2, d3, d4] }
  | _ => none }
def CrcTellsWrongFalsely : Prop := crcTellsRow.holds Try.pinned (OpenSpec.ofChange crcTellsWrong)

/-- 'pillarboxlaw02.CrcLays': WHATEVER THE INPUT: true; the input reads as it did. -/
def crcLaysSpec : ChangeSpec := { name := "crcLays", fn := fun _ => fun
  | [d1, d2, d3] => { results := [.lit (.bool true)], args := [d1, d2, d3] }
  | _ => none }
def crcLaysRow : OpenClaim := { program := "ytfgmnachckbimaa", sum := "f2ff0115f631c49d6566006772c6a5a6f5712b63ff5f592bb17c672376f63813", func := "pillarbox/pillarboxlaw02.CrcLays", spec := "crcLays", apart := false }
def CrcLaysSaid : Prop := crcLaysRow.holds Try.pinned (OpenSpec.ofChange crcLaysSpec)

/-- ITS FALSE NEIGHBOUR: 'it returns false'. Refute it at one input. -/
def crcLaysWrong : ChangeSpec := { name := "crcLays", fn := fun _ => fun
  | [d1, d2, d3] => { results := [.lit (.bool false)], args := [d1, d2, d3] }
  | _ => none }
def CrcLaysWrongFalsely : Prop := crcLaysRow.holds Try.pinned (OpenSpec.ofChange crcLaysWrong)

/-- 'pillarboxlaw11.MarkEncodes': WHATEVER THE INPUT: true; the input reads as it did. -/
def markEncodesSpec : ChangeSpec := { name := "markEncodes", fn := fun _ => fun
  | [d] => { results := [.lit (.bool true)], args := [d] }
  | _ => none }
def markEncodesRow : OpenClaim := { program := "ytfgmnachckbimaa", sum := "f2ff0115f631c49d6566006772c6a5a6f5712b63ff5f592bb17c672376f63813", func := "pillarbox/pillarboxlaw11.MarkEncodes", spec := "markEncodes", unfollowed := true, recurses := true, apart := false }
def MarkEncodesSaid : Prop := markEncodesRow.holds Try.pinned (OpenSpec.ofChange markEncodesSpec)

/-- ITS FALSE NEIGHBOUR: 'it returns false'. Refute it at one input. -/
def markEncodesWrong : ChangeSpec := { name := "markEncodes", fn := fun _ => fun
  | [d] => { results := [.lit (.bool false)], args := [d] }
  | _ => none }
def MarkEncodesWrongFalsely : Prop := markEncodesRow.holds Try.pinned (OpenSpec.ofChange markEncodesWrong)

/-- 'pillarboxlaw11.MarkDecodes': WHATEVER THE INPUT: true; the input reads as it did. -/
def markDecodesSpec : ChangeSpec := { name := "markDecodes", fn := fun _ => fun
  | [d1, d2, d3, d4] => { results := [.lit (.bool true)], args := [d1, d2, d3, d4] }
  | _ => none }
def markDecodesRow : OpenClaim := { program := "ytfgmnachckbimaa", sum := "f2ff0115f631c49d6566006772c6a5a6f5712b63ff5f592bb17c672376f63813", func := "pillarbox/pillarboxlaw11.MarkDecodes", spec := "markDecodes", unfollowed := true, recurses := true, apart := false }
def MarkDecodesSaid : Prop := markDecodesRow.holds Try.pinned (OpenSpec.ofChange markDecodesSpec)

/-- ITS FALSE NEIGHBOUR: 'it returns false'. Refute it at one input. -/
def markDecodesWrong : ChangeSpec := { name := "markDecodes", fn := fun _ => fun
  | [d1, d2, d3, d4] => { results := [.lit (.bool false)], args := [d1, d2, d3, d4] }
  | _ => none }
def MarkDecodesWrongFalsely : Prop := markDecodesRow.holds Try.pinned (OpenSpec.ofChange markDecodesWrong)

/-- 'pillarboxlaw11.MarkTorn': WHATEVER THE INPUT: true; the input reads as it did. -/
def markTornSpec : ChangeSpec := { name := "markTorn", fn := fun _ => fun
  | [d1, d2] => { results := [.lit (.bool true)], args := [d1, d2] }
  | _ => none }
def markTornRow : OpenClaim := { program := "ytfgmnachckbimaa", sum := "f2ff0115f631c49d6566006772c6a5a6f5712b63ff5f592bb17c672376f63813", func := "pillarbox/pillarboxlaw11.MarkTorn", spec := "markTorn", unfollowed := true, recurses := true, apart := false }
def MarkTornSaid : Prop := markTornRow.holds Try.pinned (OpenSpec.ofChange markTornSpec)

/-- ITS FALSE NEIGHBOUR: 'it returns false'. Refute it at one input. -/
def markTornWrong : ChangeSpec := { name := "markTorn", fn := fun _ => fun
  | [d1, d2] => { results := [.lit (.bool false)], args := [d1, d2] }
  | _ => none }
def MarkTornWrongFalsely : Prop := markTornRow.holds Try.pinned (OpenSpec.ofChange markTornWrong)

/-- 'pillarboxlaw11.MarkFates': WHATEVER THE INPUT: true; the input reads as it did. -/
def markFatesSpec : ChangeSpec := { name := "markFates", fn := fun _ => fun
  | [d1, d2] => { results := [.lit (.bool true)], args := [d1, d2] }
  | _ => none }
def markFatesRow : OpenClaim := { program := "ytfgmnachckbimaa", sum := "f2ff0115f631c49d6566006772c6a5a6f5712b63ff5f592bb17c672376f63813", func := "pillarbox/pillarboxlaw11.MarkFates", spec := "markFates", unfollowed := true, recurses := true, apart := false }
def MarkFatesSaid : Prop := markFatesRow.holds Try.pinned (OpenSpec.ofChange markFatesSpec)

/-- ITS FALSE NEIGHBOUR: 'it returns false'. Refute it at one input. -/
def markFatesWrong : ChangeSpec := { name := "markFates", fn := fun _ => fun
  | [d1, d2] => { results := [.lit (.bool false)], args := [d1, d2] }
  | _ => none }
def MarkFatesWrongFalsely : Prop := markFatesRow.holds Try.pinned (OpenSpec.ofChange markFatesWrong)

/-- 'pillarboxlaw11.MarkLast': WHATEVER THE INPUT: true; the input reads as it did. -/
def markLastSpec : ChangeSpec := { name := "markLast", fn := fun _ => fun
  | [d1, d2] => { results := [.lit (.bool true)], args := [d1, d2] }
  | _ => none }
def markLastRow : OpenClaim := { program := "ytfgmnachckbimaa", sum := "f2ff0115f631c49d6566006772c6a5a6f5712b63ff5f592bb17c672376f63813", func := "pillarbox/pillarboxlaw11.MarkLast", spec := "markLast", unfollowed := true, recurses := true, apart := false }
def MarkLastSaid : Prop := markLastRow.holds Try.pinned (OpenSpec.ofChange markLastSpec)

/-- ITS FALSE NEIGHBOUR: 'it returns false'. Refute it at one input. -/
def markLastWrong : ChangeSpec := { name := "markLast", fn := fun _ => fun
  | [d1, d2] => { results := [.lit (.bool false)], args := [d1, d2] }
  | _ => none }
def MarkLastWrongFalsely : Prop := markLastRow.holds Try.pinned (OpenSpec.ofChange markLastWrong)

/-- 'pillarboxlaw11.MarkApart': WHATEVER THE INPUT: true; the input reads as it did. -/
def markApartSpec : ChangeSpec := { name := "markApart", fn := fun _ => fun
  | [d1, d2] => { results := [.lit (.bool true)], args := [d1, d2] }
  | _ => none }
def markApartRow : OpenClaim := { program := "ytfgmnachckbimaa", sum := "f2ff0115f631c49d6566006772c6a5a6f5712b63ff5f592bb17c672376f63813", func := "pillarbox/pillarboxlaw11.MarkApart", spec := "markApart", unfollowed := true, recurses := true, apart := false }
def MarkApartSaid : Prop := markApartRow.holds Try.pinned (OpenSpec.ofChange markApartSpec)

/-- ITS FALSE NEIGHBOUR: 'it returns false'. Refute it at one input. -/
def markApartWrong : ChangeSpec := { name := "markApart", fn := fun _ => fun
  | [d1, d2] => { results := [.lit (.bool false)], args := [d1, d2] }
  | _ => none }
def MarkApartWrongFalsely : Prop := markApartRow.holds Try.pinned (OpenSpec.ofChange markApartWrong)

/- THE SECOND FORM. 'bulk': how many values and letters a reading holds, each counted each time it is reached (what is shared counts as often as it is met; a slice's spare places count too). A statement '..UptoSaid' is the law's where the arguments, and the package variables that the reading takes, are together of bulk at most 1048576: NARROWER than '..Said'. Prove '..Said' where nothing that the law and all that it calls make is longer than what came in: it says more and counts as full. Else prove '..UptoSaid'. A law counts once. -/
mutual
def uptoBulk {H : Type} : DataW H → Nat
  | .lit (.string bytes) => bytes.length + 1
  | .lit _ => 1
  | .nil => 1
  | .ptr d => uptoBulk d + 1
  | .slice elems spare => uptoBulkAll elems + uptoBulkAll spare + 1
  | .agg parts => uptoBulkAll parts + 1
  | .iface _ d => uptoBulk d + 1
  | .map entries => uptoBulkEntries entries + 1
  | .held _ => 1
def uptoBulkAll {H : Type} : List (DataW H) → Nat
  | [] => 0
  | d :: r => uptoBulk d + uptoBulkAll r
def uptoBulkEntries {H : Type} : List (Lit × DataW H) → Nat
  | [] => 0
  | x :: r => uptoBulkEntry x + uptoBulkEntries r
def uptoBulkEntry {H : Type} : Lit × DataW H → Nat
  | (.string bytes, d) => bytes.length + uptoBulk d + 1
  | (_, d) => uptoBulk d + 1
 end
def uptoSmall : (H : Type) → List (DataW H) → Bool := fun _ ds => decide (uptoBulkAll ds ≤ 1048576)
def OpenSpec.upto (s : _root_.Go.ChangeSpec) : _root_.Go.OpenSpec := { _root_.Go.OpenSpec.ofChange s with cond := some uptoSmall }

/-- 'pillarboxlaw02.CrcSums', WHERE WHAT IT READS IS OF BULK AT MOST 1048576: true; the input reads as it did. -/
def crcSumsUptoRow : OpenClaim := { program := "ytfgmnachckbimaa", sum := "f2ff0115f631c49d6566006772c6a5a6f5712b63ff5f592bb17c672376f63813", func := "pillarbox/pillarboxlaw02.CrcSums", spec := "crcSums", apart := false, narrowed := true }
def CrcSumsUptoSaid : Prop := crcSumsUptoRow.holds Try.pinned (OpenSpec.upto crcSumsSpec)

/-- 'pillarboxlaw02.CrcTable', WHERE WHAT IT READS IS OF BULK AT MOST 1048576: true; the input reads as it did. -/
def crcTableUptoRow : OpenClaim := { program := "ytfgmnachckbimaa", sum := "f2ff0115f631c49d6566006772c6a5a6f5712b63ff5f592bb17c672376f63813", func := "pillarbox/pillarboxlaw02.CrcTable", spec := "crcTable", apart := false, narrowed := true }
def CrcTableUptoSaid : Prop := crcTableUptoRow.holds Try.pinned (OpenSpec.upto crcTableSpec)

/-- 'pillarboxlaw02.CrcTells', WHERE WHAT IT READS IS OF BULK AT MOST 1048576: true; the input reads as it did. -/
def crcTellsUptoRow : OpenClaim := { program := "ytfgmnachckbimaa", sum := "f2ff0115f631c49d6566006772c6a5a6f5712b63ff5f592bb17c672376f63813", func := "pillarbox/pillarboxlaw02.CrcTells", spec := "crcTells", apart := false, narrowed := true }
def CrcTellsUptoSaid : Prop := crcTellsUptoRow.holds Try.pinned (OpenSpec.upto crcTellsSpec)

/-- 'pillarboxlaw02.CrcLays', WHERE WHAT IT READS IS OF BULK AT MOST 1048576: true; the input reads as it did. -/
def crcLaysUptoRow : OpenClaim := { program := "ytfgmnachckbimaa", sum := "f2ff0115f631c49d6566006772c6a5a6f5712b63ff5f592bb17c672376f63813", func := "pillarbox/pillarboxlaw02.CrcLays", spec := "crcLays", apart := false, narrowed := true }
def CrcLaysUptoSaid : Prop := crcLaysUptoRow.holds Try.pinned (OpenSpec.upto crcLaysSpec)

/-- 'pillarboxlaw11.MarkEncodes', WHERE WHAT IT READS IS OF BULK AT MOST 1048576: true; the input reads as it did. -/
def markEncodesUptoRow : OpenClaim := { program := "ytfgmnachckbimaa", sum := "f2ff0115f631c49d6566006772c6a5a6f5712b63ff5f592bb17c672376f63813", func := "pillarbox/pillarboxlaw11.MarkEncodes", spec := "markEncodes", unfollowed := true, recurses := true, apart := false, narrowed := true }
def MarkEncodesUptoSaid : Prop := markEncodesUptoRow.holds Try.pinned (OpenSpec.upto markEncodesSpec)

/-- 'pillarboxlaw11.MarkDecodes', WHERE WHAT IT READS IS OF BULK AT MOST 1048576: true; the input reads as it did. -/
def markDecodesUptoRow : OpenClaim := { program := "ytfgmnachckbimaa", sum := "f2ff0115f631c49d6566006772c6a5a6f5712b63ff5f592bb17c672376f63813", func := "pillarbox/pillarboxlaw11.MarkDecodes", spec := "markDecodes", unfollowed := true, recurses := true, apart := false, narrowed := true }
def MarkDecodesUptoSaid : Prop := markDecodesUptoRow.holds Try.pinned (OpenSpec.upto markDecodesSpec)

/-- 'pillarboxlaw11.MarkTorn', WHERE WHAT IT READS IS OF BULK AT MOST 1048576: true; the input reads as it did. -/
def markTornUptoRow : OpenClaim := { program := "ytfgmnachckbimaa", sum := "f2ff0115f631c49d6566006772c6a5a6f5712b63ff5f592bb17c672376f63813", func := "pillarbox/pillarboxlaw11.MarkTorn", spec := "markTorn", unfollowed := true, recurses := true, apart := false, narrowed := true }
def MarkTornUptoSaid : Prop := markTornUptoRow.holds Try.pinned (OpenSpec.upto markTornSpec)

/-- 'pillarboxlaw11.MarkFates', WHERE WHAT IT READS IS OF BULK AT MOST 1048576: true; the input reads as it did. -/
def markFatesUptoRow : OpenClaim := { program := "ytfgmnachckbimaa", sum := "f2ff0115f631c49d6566006772c6a5a6f5712b63ff5f592bb17c672376f63813", func := "pillarbox/pillarboxlaw11.MarkFates", spec := "markFates", unfollowed := true, recurses := true, apart := false, narrowed := true }
def MarkFatesUptoSaid : Prop := markFatesUptoRow.holds Try.pinned (OpenSpec.upto markFatesSpec)

/-- 'pillarboxlaw11.MarkLast', WHERE WHAT IT READS IS OF BULK AT MOST 1048576: true; the input reads as it did. -/
def markLastUptoRow : OpenClaim := { program := "ytfgmnachckbimaa", sum := "f2ff0115f631c49d6566006772c6a5a6f5712b63ff5f592bb17c672376f63813", func := "pillarbox/pillarboxlaw11.MarkLast", spec := "markLast", unfollowed := true, recurses := true, apart := false, narrowed := true }
def MarkLastUptoSaid : Prop := markLastUptoRow.holds Try.pinned (OpenSpec.upto markLastSpec)

/-- 'pillarboxlaw11.MarkApart', WHERE WHAT IT READS IS OF BULK AT MOST 1048576: true; the input reads as it did. -/
def markApartUptoRow : OpenClaim := { program := "ytfgmnachckbimaa", sum := "f2ff0115f631c49d6566006772c6a5a6f5712b63ff5f592bb17c672376f63813", func := "pillarbox/pillarboxlaw11.MarkApart", spec := "markApart", unfollowed := true, recurses := true, apart := false, narrowed := true }
def MarkApartUptoSaid : Prop := markApartUptoRow.holds Try.pinned (OpenSpec.upto markApartSpec)

end Rows
end Go.Proofs.Ytfgmnachckbimaa
