/-
  The walk of the law MarkFates.
-/
import Derived.Test.YtjddicoigbidlaaGreatDoorQ16
import Derived.Test.YtjddicoigbidlaaGreatDoorQ21
import Derived.Test.YtjddicoigbidlaaGreatDoorQ22
import Derived.Test.YtjddicoigbidlaaGreatDoorQ23
set_option linter.unusedSimpArgs false
set_option linter.unusedVariables false
namespace Go.Proofs.YtjddicoigbidlaaGreatDoor
open Go.RowKit
theorem nil_row (w : World) (base size : Nat) (e : TypeId) : w.ownsRow base e size (.slice none 0 0) 0 [] := ⟨by simp, .inl ⟨rfl, rfl⟩⟩
theorem filter_snoc {α : Type} {ks : List α} {j : Nat} {k : α} (p : α → Bool) (h : ks[j]? = some k) : (ks.take (j + 1)).filter p = (ks.take j).filter p ++ (if p k then [k] else []) := by
  rw [take_snoc h, List.filter_append, List.filter_cons]; rfl
end Go.Proofs.YtjddicoigbidlaaGreatDoor
