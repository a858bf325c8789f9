/-
  A mark that comes in by value.
-/
import Derived.Test.YtjddicoigbidlaaGreatDoorQ5
import Derived.Test.YtjddicoigbidlaaGreatDoorQ6
set_option linter.unusedSimpArgs false
set_option linter.unusedVariables false
set_option maxRecDepth 100000
namespace Go.Proofs.YtjddicoigbidlaaGreatDoor
open Go.ChangeShapes Go.WideShapes Go.Deep Go.RowKit
theorem mark_arg {H : Type} {enc : TypeId × Value → H} {W : World} {r : Reach} {b0 base : Nat} {held : Bool} {v : Value} {d : DataW H} {p : List MemPlace}
    (hv : Value.okWide Tryz.prog W r b0 52 v) (h : DataW.Trod enc Tryz.prog W base (fun _ => true) held 52 v d p) : ∃ k : MarkD, v = k.val := by
  obtain ⟨f0, f1, f2, hu, _⟩ := fieldsMark
  obtain ⟨cs, rfl, hsz⟩ := okWide_struct hu hv
  obtain ⟨fuel, hf⟩ := h
  obtain ⟨k, hk⟩ := mark_cells hf
  refine ⟨k, ?_⟩
  obtain ⟨cs⟩ := cs
  have hk' : cs = k.cells := by simpa [Value.cells] using hk
  rw [hk']
theorem bulk_pos {H : Type} (d : DataW H) : 1 ≤ Rows.uptoBulk d := by
  rcases d with l | _ | _ | _ | _ | _ | _ <;> (try cases l) <;> simp [Rows.uptoBulk] <;> omega
theorem bulk_len {H : Type} : ∀ (l : List (DataW H)), l.length ≤ Rows.uptoBulkAll l
  | [] => by simp
  | d :: r => by
    rw [Rows.uptoBulkAll, List.length_cons]
    have := bulk_pos d
    have := bulk_len r
    omega
end Go.Proofs.YtjddicoigbidlaaGreatDoor
