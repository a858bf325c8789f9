/-
  The walk of pillarboxlaw11.answers.
-/
import Derived.Test.YtfgmnachckbimaaFates
set_option linter.unusedSimpArgs false
set_option linter.unusedVariables false
namespace Go.Proofs.Ytfgmnachckbimaa
open Go.RowKit
theorem ans_decode : decodeM (MarkD.bytes ⟨4, 1, 9⟩) = [⟨4, 1, 9⟩] := by kernel_rfl
theorem ans_fates : fatesD (nFates 2) [⟨1, 1, 0⟩, ⟨4, 1, 9⟩] = [⟨0, 0, 0, 0, false⟩, ⟨0, 1, 9, 0, false⟩] := by kernel_rfl
/-- A row that is known whole. -/
theorem rdL_row {α : Type} {s : Nat} {f : α → List Value} (hf : ∀ x, (f x).length = s) (hs : 0 < s) {w : World} {g : Nat} {xs : List α} {t : TypeId} {fr : Nat × Nat} (h : w.heap[g]? = some (.cells (xs.flatMap f).toArray t fr)) {cap : Nat} (hc : xs.length ≤ cap) (hc' : cap ≤ 9223372036854775807) : RdL s f w (.slice (some ⟨g, 0, none⟩) xs.length cap) xs := by
  by_cases hne : xs = []
  · subst hne; exact .inl ⟨_, _, rfl, hc', rfl⟩
  · refine .inr ⟨g, 0, cap, rfl, hne, hc, hc', (Array.getElem?_eq_some_iff.1 h).1, fun i x hx j u hu => ?_⟩
    have hj : j < s := by have := (List.getElem?_eq_some_iff.1 hu).1; rw [hf] at this; exact this
    rw [cell_of_row _ _ _ _ _ _ h]
    simp only [Nat.zero_add, List.getElem?_toArray]
    rw [flat_get hf hs _ _ _ hx _ hj, hu]
abbrev AnsS (k g2 g3 : Nat) (w' : World) : Prop :=
  w'.cell? ⟨k, 0, none⟩ = some (.int .i64 4) ∧ w'.cell? ⟨k, 1, none⟩ = some (.int .i64 1) ∧ w'.cell? ⟨k, 2, none⟩ = some (.int .i64 9) ∧
  w'.cell? ⟨g2, 0, none⟩ = some (.int .i64 4) ∧ w'.cell? ⟨g2, 1, none⟩ = some (.int .i64 1) ∧ w'.cell? ⟨g2, 2, none⟩ = some (.int .i64 9) ∧
  w'.cell? ⟨g3, 5, none⟩ = some (.int .i64 0) ∧ w'.cell? ⟨g3, 6, none⟩ = some (.int .i64 1) ∧ w'.cell? ⟨g3, 7, none⟩ = some (.int .i64 9) ∧ w'.cell? ⟨g3, 8, none⟩ = some (.int .i64 0) ∧ w'.cell? ⟨g3, 9, none⟩ = some (.bool false)
theorem AnsS.go {k g2 g3 : Nat} {w w' : World} (hb : Below w.heap.size w w') (h : AnsS k g2 g3 w) : AnsS k g2 g3 w' := by
  obtain ⟨h1, h2, h3, h4, h5, h6, h7, h8, h9, h10, h11⟩ := h
  have l1 := World.block_lt_of_cell? w ⟨k, 0, none⟩ h1
  have l2 := World.block_lt_of_cell? w ⟨g2, 0, none⟩ h4
  have l3 := World.block_lt_of_cell? w ⟨g3, 5, none⟩ h7
  obtain ⟨c, f⟩ := below_cell hb
  exact ⟨(c _ _ l1).trans h1, (c _ _ l1).trans h2, (c _ _ l1).trans h3, (c _ _ l2).trans h4, (c _ _ l2).trans h5, (c _ _ l2).trans h6, (c _ _ l3).trans h7, (c _ _ l3).trans h8, (c _ _ l3).trans h9, (c _ _ l3).trans h10, (c _ _ l3).trans h11⟩
set_option maxRecDepth 100000 in
set_option maxHeartbeats 1000000 in
theorem markAns_calls (w : World) :
    Calls Try.prog 19 #[] w fun e w' => e = .returned (.bool true) ∧ Below w.heap.size w w' := by
  go_enter Try.func19, Try.ntmps19
  go_wp2_with fail
  refine (markEncode_good ⟨4, 1, 9⟩ _ rfl).mono ?_; rintro e w1 ⟨v1, rfl, hown1, hb1⟩
  have hbl := bytes_length ⟨4, 1, 9⟩
  have hR1 := rdB_ofOwn hown1
  obtain ⟨g1, cap1, rfl, -⟩ := own_form hown1 (by rw [hbl]; decide)
  rw [hbl] at hR1 ⊢
  have hbel1 : Below w.heap.size w w1 := ((Below.refl _ _).alloc (Nat.le_refl _) _).trans (hb1.mono (by simp))
  have hk1 : w1.heap[w.heap.size]? = some (.cells #[.int .i64 4, .int .i64 1, .int .i64 9] 36 (0, 0)) := (hb1.block _ (by simp)).trans (heap_alloc_new w _)
  clear hb1 hown1
  go_wp2_with fail
  refine (markDecode_calls _ _ _ hR1 (by rw [hbl]; decide)).mono ?_; rintro e w2 ⟨v2, rfl, hown2, hb2⟩
  rw [ans_decode] at hown2 ⊢
  obtain ⟨g2, cap2, rfl, -⟩ := own_form hown2 (by decide)
  have hk2 := (hb2.block _ (Array.getElem?_eq_some_iff.1 hk1).1).trans hk1
  have hbel2 := hbel1.trans (hb2.mono hbel1.size)
  have c0 : w2.cell? ⟨w.heap.size, 0, none⟩ = some (.int .i64 4) := by rw [cell_of_row _ _ _ _ _ _ hk2]; rfl
  have c1 : w2.cell? ⟨w.heap.size, 1, none⟩ = some (.int .i64 1) := by rw [cell_of_row _ _ _ _ _ _ hk2]; rfl
  have c2 : w2.cell? ⟨w.heap.size, 2, none⟩ = some (.int .i64 9) := by rw [cell_of_row _ _ _ _ _ _ hk2]; rfl
  clear hb2 hR1 hk1 hbel1
  go_wp2_with fail
  have hM := rdL_row (s := 3) (f := MarkD.cells) (xs := [⟨1, 1, 0⟩, ⟨4, 1, 9⟩]) (cap := 2) mark_len (by decide) (heap_alloc_new w2 (.cells #[.int .i64 1, .int .i64 1, .int .i64 0, .int .i64 4, .int .i64 1, .int .i64 9] 36)) (by decide) (by decide)
  refine (fates_calls 2 _ [⟨1, 1, 0⟩, ⟨4, 1, 9⟩] _ hM).mono ?_; rintro e w3 ⟨g3, cap3, rfl, hown3, hb3⟩
  rw [ans_fates] at hown3 ⊢
  have hb3' : Below w2.heap.size w2 w3 := ((Below.refl _ _).alloc (Nat.le_refl _) _).trans (hb3.mono (by simp))
  have hk3 := (hb3'.block _ (Array.getElem?_eq_some_iff.1 hk2).1).trans hk2
  have hbel3 := hbel2.trans (hb3'.mono hbel2.size)
  have hL : RdM w3 (.slice (some ⟨g2, 0, none⟩) 1 cap2) [⟨4, 1, 9⟩] := (rdL_ofOwn mark_len (by decide) hown2).below (Nat.le_refl _) hb3'
  obtain ⟨_, _, _, e1, _, l0, l1, l2⟩ := RdL.at3 hL (i := 0) rfl
  cases e1
  obtain ⟨_, _, _, e1, _, f0, f1, f2, f3, f4⟩ := RdL.at5 (rdL_ofOwn fate_len (by decide) hown3) (i := 1) rfl
  cases e1
  have c0 : w3.cell? ⟨w.heap.size, 0, none⟩ = some (.int .i64 4) := by rw [cell_of_row _ _ _ _ _ _ hk3]; rfl
  have c1 : w3.cell? ⟨w.heap.size, 1, none⟩ = some (.int .i64 1) := by rw [cell_of_row _ _ _ _ _ _ hk3]; rfl
  have c2 : w3.cell? ⟨w.heap.size, 2, none⟩ = some (.int .i64 9) := by rw [cell_of_row _ _ _ _ _ _ hk3]; rfl
  simp only [Nat.zero_mul, Nat.zero_add, Nat.one_mul, Nat.reduceAdd] at l0 l1 l2 f0 f1 f2 f3 f4
  have hS : AnsS w.heap.size g2 g3 w3.drew := AnsS.go (Below.refl _ _).drew ⟨c0, c1, c2, l0, l1, l2, f0, f1, f2, f3, f4⟩
  clear c0 c1 c2 l0 l1 l2 f0 f1 f2 f3 f4 hM hk2 hk3 hL hown2 hown3 hb3 hb3' hbel2
  go_wp2
  go_region_held3 (fun w' => w'.cell? ⟨w.heap.size, 0, none⟩ = some (.int .i64 4) ∧ w'.cell? ⟨w.heap.size, 1, none⟩ = some (.int .i64 1) ∧ w'.cell? ⟨w.heap.size, 2, none⟩ = some (.int .i64 9) ∧
      w'.cell? ⟨g2, 0, none⟩ = some (.int .i64 4) ∧ w'.cell? ⟨g2, 1, none⟩ = some (.int .i64 1) ∧ w'.cell? ⟨g2, 2, none⟩ = some (.int .i64 9) ∧
      w'.cell? ⟨g3, 5, none⟩ = some (.int .i64 0) ∧ w'.cell? ⟨g3, 6, none⟩ = some (.int .i64 1) ∧ w'.cell? ⟨g3, 7, none⟩ = some (.int .i64 9) ∧ w'.cell? ⟨g3, 8, none⟩ = some (.int .i64 0) ∧ w'.cell? ⟨g3, 9, none⟩ = some (.bool false))
    (first | with_reducible exact hS | with_reducible assumption | with_reducible exact AnsS.go (by assumption) (by assumption))
    (first
      | (go_at_call 20; refine (markGood_calls ⟨4, 1, 9⟩ _).mono ?_; rintro e w5 ⟨rfl, hb5⟩; have hfin5 := And.intro trivial (hbel3.drew.trans (hb5.mono hbel3.drew.size))))
  go_wp2
  go_ret
  exact ⟨rfl, hfin5.2⟩
end Go.Proofs.Ytfgmnachckbimaa
