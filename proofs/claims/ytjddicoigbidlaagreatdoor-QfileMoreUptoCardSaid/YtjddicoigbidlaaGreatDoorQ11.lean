/-
  The walks of qfile's methods that look at fates: Fates, waits, Over, Open, Crashes, Due.
-/
import Derived.Test.YtjddicoigbidlaaGreatDoorQ10
set_option linter.unusedSimpArgs false
set_option linter.unusedVariables false
namespace Go.Proofs.YtjddicoigbidlaaGreatDoor
open Go.RowKit
/-- A file's fates. -/
def FileD.fates (f : FileD) : List FateD := fatesD (nFates (f.mail.rcpts.length : Int)) f.marks
set_option maxRecDepth 100000 in
set_option maxHeartbeats 4000000 in
theorem fileFates_calls (f : FileD) (vr vb vm : Value) (w : World) (hr : RdS w vr f.mail.rcpts) (hm : RdM w vm f.marks) :
    Calls Tryz.prog 29 #[fileVal f vr vb vm] w (FatesDone w f.fates) := by
  obtain ⟨ar, capr, rfl, _, _⟩ := hr.form
  obtain ⟨am, capm, rfl, _, _⟩ := hm.form
  obtain ⟨W, hW⟩ : ∃ W, w.alloc (.cells #[.int .i64 f.mail.id, .int .i64 f.mail.parent, .int .i64 f.mail.born, .string (strL f.mail.frm), .slice ar f.mail.rcpts.length capr, vb, .slice am f.marks.length capm, .int .i64 (f.good : Int)] 43) = W := ⟨_, rfl⟩
  have hbW : Below w.heap.size w W := by rw [← hW]; exact (Below.refl _ _).alloc (Nat.le_refl _) _
  have hF : W.heap[w.heap.size]? = some (.cells #[.int .i64 f.mail.id, .int .i64 f.mail.parent, .int .i64 f.mail.born, .string (strL f.mail.frm), .slice ar f.mail.rcpts.length capr, vb, .slice am f.marks.length capm, .int .i64 (f.good : Int)] 43 (0, 0)) := by rw [← hW]; exact heap_alloc_new w _
  have c4 := (cells8 hF).1.2.2.2.2.1
  have c6 := (cells8 hF).1.2.2.2.2.2.2.1
  have hcall := fates_calls (f.mail.rcpts.length : Int) (.slice am f.marks.length capm) f.marks W (hm.below (Nat.le_refl _) hbW)
  have Hcall := Lib.hid hcall
  have HbW := Lib.hid hbW
  clear hcall hF hbW hr hm
  subst hW
  go_enter Tryz.func29, Tryz.ntmps29
  go_wp2_with fail
  refine (Hcall.out).mono ?_; rintro e w1 ⟨g, cap, rfl, hown, hb1⟩
  go_wp2
  go_ret
  exact ⟨g, cap, rfl, own_mono hown HbW.out.size, HbW.out.trans (hb1.mono HbW.out.size)⟩
/-- Does a recipient wait? -/
def FateD.waits (x : FateD) : Bool := x.state == 0
set_option maxRecDepth 100000 in
set_option maxHeartbeats 1000000 in
theorem waits_calls (x : FateD) (w : World) : Calls Tryz.prog 65 #[x.val] w fun e w' => e = .returned (.bool x.waits) ∧ Below w.heap.size w w' := by
  obtain ⟨p, hp⟩ : ∃ p, x.waits = p := ⟨_, rfl⟩
  have hp' : (x.state == 0) = p := hp
  rw [hp]
  clear hp
  obtain ⟨st, tr, nx, cr, op⟩ := x
  simp only at hp'
  go_enter Tryz.func65, Tryz.ntmps65
  go_wp2
  go_ret
  exact ⟨by first | rfl | (rw [← hp']) | exact ret_bool hp'.symm, (Below.refl _ _).alloc (Nat.le_refl _) _⟩
end Go.Proofs.YtjddicoigbidlaaGreatDoor
