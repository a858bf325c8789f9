/-
  The walk of the law MarkEncodes.
-/
import Derived.Test.YtjddicoigbidlaaGreatDoorQ4
import Derived.Test.YtjddicoigbidlaaGreatDoorQ16
import Derived.Laws.BytesArg
set_option linter.unusedSimpArgs false
set_option linter.unusedVariables false
set_option maxRecDepth 100000
namespace Go.Proofs.YtjddicoigbidlaaGreatDoor
open Go.RowKit
/-- Bytes as a string. -/
def strB (bs : List UInt8) : ByteArray := ⟨bs.toArray⟩
theorem run_str {w : World} {v : Value} {bs : List UInt8} (h : RdB w v bs) (hne : bs ≠ []) : (convert 23 9 v).run Tryz.prog w = .ok (.string (strB bs)) w := by
  rcases h with ⟨_, _, _, _, h⟩ | ⟨b, off, cap, rfl, h0, h1, h2, h3, h4⟩
  · exact absurd h hne
  · have := run_convert_bytes_arg (P := Tryz.prog) w 23 5 Tryz.underlying23 Tryz.underlying5 b off bs.length cap (bs.map fun x => (x.toNat : Int)) (by simp) (fun i hi => by
      rw [h4 i bs[i] (List.getElem?_eq_getElem hi)]
      simp [List.getD, List.getElem?_eq_getElem hi]) 9 Tryz.underlying9
    rw [this]
    congr 2
    simp [strB, strOfNums, Function.comp_def]
def MEncR (w0 : World) (bs : List UInt8) (v : Value) (w : World) : Prop := Below w0.heap.size w0 w ∧ RdB w v bs
theorem MEncR.go {w0 : World} {bs : List UInt8} {v : Value} {w w' : World} (hb : Below w.heap.size w w') (h : MEncR w0 bs v w) : MEncR w0 bs v w' :=
  ⟨h.1.trans (hb.mono h.1.size), h.2.below (Nat.le_refl _) hb⟩
abbrev MEncS (w0 : World) (bs : List UInt8) (v : Value) (k : MarkD) (w' : World) : Prop :=
  w'.cell? ⟨w0.heap.size, 0, none⟩ = some (.int .i64 k.kind) ∧ w'.cell? ⟨w0.heap.size, 1, none⟩ = some (.int .i64 k.rcpt) ∧ w'.cell? ⟨w0.heap.size, 2, none⟩ = some (.int .i64 k.n) ∧ MEncR w0 bs v w'
theorem MEncS.go {w0 : World} {bs : List UInt8} {v : Value} {k : MarkD} {w w' : World} (hb : Below w.heap.size w w') (h : MEncS w0 bs v k w) : MEncS w0 bs v k w' := by
  obtain ⟨h1, h2, h3, h4⟩ := h
  have l1 := World.block_lt_of_cell? w ⟨w0.heap.size, 0, none⟩ h1
  obtain ⟨c, f⟩ := below_cell hb
  exact ⟨(c _ _ l1).trans h1, (c _ _ l1).trans h2, (c _ _ l1).trans h3, h4.go hb⟩
end Go.Proofs.YtjddicoigbidlaaGreatDoor
