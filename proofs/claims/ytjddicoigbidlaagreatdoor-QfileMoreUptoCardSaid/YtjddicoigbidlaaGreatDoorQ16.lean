/-
  The walk of pillarboxlaw11.answers.
-/
import Derived.Test.YtjddicoigbidlaaGreatDoorQ3
set_option linter.unusedSimpArgs false
set_option linter.unusedVariables false
namespace Go.Proofs.YtjddicoigbidlaaGreatDoor
open Go.RowKit
theorem ans_decode : decodeM (MarkD.bytes ⟨4, 1, 9⟩) = [⟨4, 1, 9⟩] := by kernel_rfl
theorem ans_fates : fatesD (nFates 2) [⟨1, 1, 0⟩, ⟨4, 1, 9⟩] = [⟨0, 0, 0, 0, false⟩, ⟨0, 1, 9, 0, false⟩] := by kernel_rfl
/-- A row that is known whole. -/
theorem rdL_row {α : Type} {s : Nat} {f : α → List Value} (hf : ∀ x, (f x).length = s) (hs : 0 < s) {w : World} {g : Nat} {xs : List α} {t : TypeId} {fr : Nat × Nat} (h : w.heap[g]? = some (.cells (xs.flatMap f).toArray t fr)) {cap : Nat} (hc : xs.length ≤ cap) (hc' : cap ≤ 9223372036854775807) : RdL s f w (.slice (some ⟨g, 0, none⟩) xs.length cap) xs := by
  by_cases hne : xs = []
  · subst hne; exact .inl ⟨_, _, rfl, hc', rfl⟩
  · refine .inr ⟨g, 0, cap, rfl, hne, hc, hc', (Array.getElem?_eq_some_iff.1 h).1, fun i x hx j u hu => ?_⟩
    have hj : j < s := by have := (List.getElem?_eq_some_iff.1 hu).1; rw [hf] at this; exact this
    rw [cell_of_row _ _ _ _ _ _ h]
    simp only [Nat.zero_add, List.getElem?_toArray]
    rw [flat_get hf hs _ _ _ hx _ hj, hu]
abbrev AnsS (k g2 g3 : Nat) (w' : World) : Prop :=
  w'.cell? ⟨k, 0, none⟩ = some (.int .i64 4) ∧ w'.cell? ⟨k, 1, none⟩ = some (.int .i64 1) ∧ w'.cell? ⟨k, 2, none⟩ = some (.int .i64 9) ∧
  w'.cell? ⟨g2, 0, none⟩ = some (.int .i64 4) ∧ w'.cell? ⟨g2, 1, none⟩ = some (.int .i64 1) ∧ w'.cell? ⟨g2, 2, none⟩ = some (.int .i64 9) ∧
  w'.cell? ⟨g3, 5, none⟩ = some (.int .i64 0) ∧ w'.cell? ⟨g3, 6, none⟩ = some (.int .i64 1) ∧ w'.cell? ⟨g3, 7, none⟩ = some (.int .i64 9) ∧ w'.cell? ⟨g3, 8, none⟩ = some (.int .i64 0) ∧ w'.cell? ⟨g3, 9, none⟩ = some (.bool false)
theorem AnsS.go {k g2 g3 : Nat} {w w' : World} (hb : Below w.heap.size w w') (h : AnsS k g2 g3 w) : AnsS k g2 g3 w' := by
  obtain ⟨h1, h2, h3, h4, h5, h6, h7, h8, h9, h10, h11⟩ := h
  have l1 := World.block_lt_of_cell? w ⟨k, 0, none⟩ h1
  have l2 := World.block_lt_of_cell? w ⟨g2, 0, none⟩ h4
  have l3 := World.block_lt_of_cell? w ⟨g3, 5, none⟩ h7
  obtain ⟨c, f⟩ := below_cell hb
  exact ⟨(c _ _ l1).trans h1, (c _ _ l1).trans h2, (c _ _ l1).trans h3, (c _ _ l2).trans h4, (c _ _ l2).trans h5, (c _ _ l2).trans h6, (c _ _ l3).trans h7, (c _ _ l3).trans h8, (c _ _ l3).trans h9, (c _ _ l3).trans h10, (c _ _ l3).trans h11⟩
end Go.Proofs.YtjddicoigbidlaaGreatDoor
