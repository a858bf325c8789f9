/-
  The walk of the law MarkTorn.
-/
import Derived.Test.YtjddicoigbidlaaGreatDoorQ4
import Derived.Test.YtjddicoigbidlaaGreatDoorQ8
import Derived.Test.YtjddicoigbidlaaGreatDoorQ24
set_option linter.unusedSimpArgs false
set_option linter.unusedVariables false
namespace Go.Proofs.YtjddicoigbidlaaGreatDoor
open Go.RowKit
theorem infoU8' : (Tryz.prog.info? 5).map (·.size) = some 1 := by kernel_rfl
theorem infoMark' : (Tryz.prog.info? 52).map (·.size) = some 3 := by kernel_rfl
theorem bytesM_snoc {ks : List MarkD} {j : Nat} {k : MarkD} (h : ks[j]? = some k) : bytesM (ks.take (j + 1)) = bytesM (ks.take j) ++ k.bytes := by
  unfold bytesM; rw [take_snoc h, List.flatMap_append, List.flatMap_singleton]
end Go.Proofs.YtjddicoigbidlaaGreatDoor
