/-
  Equal lists are the same: pillarboxref10.SameMarks, SameFates.
-/
import Derived.Test.YtjddicoigbidlaaGreatDoorQ2
import Derived.Deep.QuietTactic
import Derived.BigQuiet
set_option linter.unusedSimpArgs false
set_option linter.unusedVariables false
namespace Go.Proofs.YtjddicoigbidlaaGreatDoor
open Go.RowKit
set_option maxRecDepth 100000 in
set_option maxHeartbeats 1000000 in
theorem sameMarks_calls (v1 v2 : Value) (ks : List MarkD) (w : World) (h1 : RdM w v1 ks) (h2 : RdM w v2 ks) :
    Calls Tryz.prog 26 #[v1, v2] w fun e w' => e = .returned (.bool true) ∧ Below w.heap.size w w' := by
  obtain ⟨a1, cap1, rfl, hl1, hc1⟩ := h1.form
  obtain ⟨a2, cap2, rfl, hl2, hc2⟩ := h2.form
  go_enter Tryz.func26, Tryz.ntmps26
  go_wp2
  go_loopw [5] (fun i wr => ∃ j : Nat, j ≤ ks.length ∧ i = .int .i64 j ∧ Below w.heap.size w wr) (fun i _ => ks.length - (intOf i).toNat)
  case atStart => exact ⟨0, Nat.zero_le _, rfl, Below.refl _ _⟩
  case round =>
    obtain ⟨j, hj, rfl, hbw⟩ := hrel
    by_cases hlt : j < ks.length
    · obtain ⟨k, hk⟩ : ∃ k, ks[j]? = some k := ⟨_, List.getElem?_eq_getElem hlt⟩
      obtain ⟨b1, o1, c1, e1, _, p0, p1, p2⟩ := RdL.at3 (h1.below (Nat.le_refl _) hbw) hk
      obtain ⟨b2, o2, c2, e2, _, q0, q1, q2⟩ := RdL.at3 (h2.below (Nat.le_refl _) hbw) hk
      cases e1; cases e2
      obtain ⟨kind, rcpt, n⟩ := k
      simp only at p0 p1 p2 q0 q1 q2
      have hi0 : (0 : Int) ≤ (j : Int) := by omega
      have hi1 : (j : Int) < (ks.length : Int) := by omega
      go_wp2
      go_quiet (fail)
      go_wp2
      go_roundw
      case rel => exact ⟨j + 1, by omega, by simp, below_drewN hbw _⟩
      case measure => simp [intOf] <;> omega
    · have hje : j = ks.length := by omega
      subst hje
      go_wp2
      go_ret
      exact ⟨rfl, hbw⟩
set_option maxRecDepth 100000 in
set_option maxHeartbeats 1000000 in
theorem sameFates_calls (v1 v2 : Value) (fs : List FateD) (w : World) (h1 : RdF w v1 fs) (h2 : RdF w v2 fs) :
    Calls Tryz.prog 32 #[v1, v2] w fun e w' => e = .returned (.bool true) ∧ Below w.heap.size w w' := by
  obtain ⟨a1, cap1, rfl, hl1, hc1⟩ := h1.form
  obtain ⟨a2, cap2, rfl, hl2, hc2⟩ := h2.form
  go_enter Tryz.func32, Tryz.ntmps32
  go_wp2
  go_loopw [5] (fun i wr => ∃ j : Nat, j ≤ fs.length ∧ i = .int .i64 j ∧ Below w.heap.size w wr) (fun i _ => fs.length - (intOf i).toNat)
  case atStart => exact ⟨0, Nat.zero_le _, rfl, Below.refl _ _⟩
  case round =>
    obtain ⟨j, hj, rfl, hbw⟩ := hrel
    by_cases hlt : j < fs.length
    · obtain ⟨k, hk⟩ : ∃ k, fs[j]? = some k := ⟨_, List.getElem?_eq_getElem hlt⟩
      obtain ⟨b1, o1, c1, e1, _, p0, p1, p2, p3, p4⟩ := RdL.at5 (h1.below (Nat.le_refl _) hbw) hk
      obtain ⟨b2, o2, c2, e2, _, q0, q1, q2, q3, q4⟩ := RdL.at5 (h2.below (Nat.le_refl _) hbw) hk
      cases e1; cases e2
      obtain ⟨st, tr, nx, cr, op⟩ := k
      simp only at p0 p1 p2 p3 p4 q0 q1 q2 q3 q4
      have hi0 : (0 : Int) ≤ (j : Int) := by omega
      have hi1 : (j : Int) < (fs.length : Int) := by omega
      go_wp2
      go_quiet (fail)
      go_wp2
      go_roundw
      case rel => exact ⟨j + 1, by omega, by simp, below_drewN hbw _⟩
      case measure => simp [intOf] <;> omega
    · have hje : j = fs.length := by omega
      subst hje
      go_wp2
      go_ret
      exact ⟨rfl, hbw⟩
end Go.Proofs.YtjddicoigbidlaaGreatDoor
