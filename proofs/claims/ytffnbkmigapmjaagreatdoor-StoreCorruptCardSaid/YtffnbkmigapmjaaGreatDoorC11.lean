/-
  The walk of env.Good.
  The walks of pillarboxref01.Texts and pillarboxlaw10.light.
  The walks of slices.Equal of texts, pillarboxref10.Same and env.Same.
  The walk of pillarboxlaw10.light.
  A mail that comes in by value: its parts, and what its slices hold; the world that a call begins in; a witness with tables laid.
  Arguments of a law as the walks want them: byte slices, slices of marks.
  What the reading of a slice argument tells besides: nil is nil, and how long it may be.
  A directory of files as data, and as a map that the program holds.
  The disk of files (package fs): what it holds, as data; how it lies in memory; and how that stays.
-/
import Derived.Test.YtffnbkmigapmjaaGreatDoorC1
import Derived.Test.YtffnbkmigapmjaaGreatDoorC5
import Derived.Test.YtffnbkmigapmjaaGreatDoorC7
import Derived.Test.YtffnbkmigapmjaaGreatDoorC10
import Derived.Deep.QuietTactic
import Derived.BigQuiet
import Derived.OpenShut
import Derived.Deep.Slices
import Derived.ChangeOld
import Derived.SliceStrings
import Derived.Lay
import Derived.MakeChecks
import Derived.Stop.Joined
import Derived.Shelf.Vars
import Derived.SizedLaws
import Derived.Maps.Own
import Derived.Maps.OwnSet
set_option linter.unusedSimpArgs false
set_option linter.unusedVariables false
namespace Go.Proofs.YtffnbkmigapmjaaGreatDoor
open Go.RowKit
/-- A mail, as plain data. -/
structure MailD where
  id : Int
  parent : Int
  born : Int
  frm : List UInt8
  rcpts : List (List UInt8)
  body : List UInt8
abbrev mailVal (m : MailD) (vr vb : Value) : Value := .agg #[.int .i64 m.id, .int .i64 m.parent, .int .i64 m.born, .string (strL m.frm), vr, vb]
def MailD.good (m : MailD) : Bool :=
  decide (1 ≤ m.id ∧ m.id ≤ 999999999) && (decide (0 ≤ m.parent ∧ m.parent ≤ m.id - 1) && (decide (0 ≤ m.born ∧ m.born ≤ 1099511627776) && (decide (1 ≤ (m.rcpts.length : Int) ∧ (m.rcpts.length : Int) ≤ 8) && (decide (m.body.length ≤ 8192) && (bodyB m.body && ((decide (m.frm.length = 0) || boxB m.frm) && m.rcpts.all boxB))))))
set_option maxRecDepth 100000 in
set_option maxHeartbeats 8000000 in
theorem envGood_calls (m : MailD) (vr vb : Value) (w : World) (hr : RdS w vr m.rcpts) (hb : RdB w vb m.body) (hsr : ∀ l ∈ m.rcpts, l.length < 4294967281) (hsf : m.frm.length < 4294967281) (hmax : MaxOk w) :
    Calls Tryz.prog 112 #[mailVal m vr vb] w fun e w' => e = .returned (.bool m.good) ∧ Below w.heap.size w w' := by
  obtain ⟨ar, capr, rfl, hlr, hcr⟩ := hr.form
  obtain ⟨ab, capb, rfl, hlb, hcb⟩ := hb.form
  obtain ⟨id, parent, born, frm, rcpts, body⟩ := m
  simp only at hr hb hsr hsf hlr hlb
  unfold MailD.good mailVal
  simp only
  obtain ⟨W, hW⟩ : ∃ W, w.alloc (.cells #[.int .i64 id, .int .i64 parent, .int .i64 born, .string (strL frm), .slice ar rcpts.length capr, .slice ab body.length capb] 29) = W := ⟨_, rfl⟩
  have hbW : Below w.heap.size w W := by rw [← hW]; exact (Below.refl _ _).alloc (Nat.le_refl _) _
  have hblk : W.heap[w.heap.size]? = some (.cells #[.int .i64 id, .int .i64 parent, .int .i64 born, .string (strL frm), .slice ar rcpts.length capr, .slice ab body.length capb] 29 (0, 0)) := by rw [← hW]; exact heap_alloc_new w _
  have hw1 := fun W => envWithin_calls id 1 999999999 W
  have hw2 := fun W => envWithin_calls parent 0 (id - 1) W
  have hw3 := fun W => envWithin_calls born 0 1099511627776 W
  have hw4 := fun W => envWithin_calls (rcpts.length : Int) 1 8 W
  have hdl := fun (h : body.length ≤ 8192) => dotsLines_calls (.slice ab body.length capb) body W (hb.below (Nat.le_refl _) hbW) (by omega) (hmax.below hbW)
  have hbx := fun W hM => envBox_calls (strL frm) W (by rw [strL_size]; exact hsf) hM
  have hcf := fun W (hR : RdS W (.slice ar rcpts.length capr) rcpts) hM => containsBad_calls (.slice ar rcpts.length capr) rcpts W hR hsr hM
  rw [strL_data] at hbx
  have hcell : ∀ W', Below W.heap.size W W' → ∀ (j : Nat) v, (#[Value.int .i64 id, .int .i64 parent, .int .i64 born, .string (strL frm), .slice ar rcpts.length capr, .slice ab body.length capb] : Array Value)[j]? = some v → W'.cell? ⟨w.heap.size, j, none⟩ = some v := by
    intro W' hB j v hv
    rw [cell_of_row _ _ _ _ _ _ ((hB.block _ (Array.getElem?_eq_some_iff.1 hblk).1).trans hblk)]
    exact hv
  have hRW : ∀ W', Below W.heap.size W W' → RdS W' (.slice ar rcpts.length capr) rcpts := fun W' hB => (hr.below (Nat.le_refl _) hbW).below (Nat.le_refl _) hB
  have hMW : ∀ W', Below W.heap.size W W' → MaxOk W' := fun W' hB => (hmax.below hbW).below hB
  have c0 := hcell W (Below.refl _ _) 0 _ rfl
  have c1 := hcell W (Below.refl _ _) 1 _ rfl
  have c2 := hcell W (Below.refl _ _) 2 _ rfl
  have c4 := hcell W (Below.refl _ _) 4 _ rfl
  have c5 := hcell W (Below.refl _ _) 5 _ rfl
  have hsf0 := strL_size frm
  generalize bodyB body = p6 at hdl
  generalize boxB frm = p8 at hbx
  generalize rcpts.all boxB = p9 at hcf
  have Hw1 := Lib.hid hw1
  have Hw2 := Lib.hid hw2
  have Hw3 := Lib.hid hw3
  have Hw4 := Lib.hid hw4
  have Hdl := Lib.hid hdl
  have Hbx := Lib.hid hbx
  have Hcf := Lib.hid hcf
  have Hcell := Lib.hid hcell
  have HRW := Lib.hid hRW
  have HMW := Lib.hid hMW
  have hfl : frm.length = 0 ↔ (strL frm).size = 0 := by rw [hsf0]
  have Hfl := Lib.hid hfl
  have HW := Lib.hid hW
  clear hw1 hw2 hw3 hw4 hdl hbx hcf hcell hRW hMW hr hb hsr hsf hmax hblk hsf0 hfl
  have hlri : (rcpts.length : Int) ≤ 9223372036854775807 := by omega
  have hlbi : (body.length : Int) ≤ 9223372036854775807 := by omega
  by_cases h1 : ¬ (1 ≤ id ∧ id ≤ 999999999)
  · have hd : decide (1 ≤ id ∧ id ≤ 999999999) = false := decide_eq_false h1
    rw [hd] at Hw1 ⊢
    clear hd h1
    go_enter Tryz.func112, Tryz.ntmps112
    go_wp2_with fail
    refine (Hw1.out _).mono ?_; rintro e _ ⟨rfl, rfl⟩
    go_wp2
    go_ret
    exact ⟨rfl, hbW⟩
  replace h1 := Decidable.not_not.1 h1
  have hd1 : decide (1 ≤ id ∧ id ≤ 999999999) = true := decide_eq_true h1
  rw [hd1] at Hw1 ⊢
  clear hd1
  obtain ⟨h1a, h1b⟩ := h1
  by_cases h2 : ¬ (0 ≤ parent ∧ parent ≤ id - 1)
  · have hd : decide (0 ≤ parent ∧ parent ≤ id - 1) = false := decide_eq_false h2
    rw [hd] at Hw2 ⊢
    clear hd h2
    go_enter Tryz.func112, Tryz.ntmps112
    go_wp2_with fail
    refine (Hw1.out _).mono ?_; rintro e _ ⟨rfl, rfl⟩
    go_wp2_with fail
    refine (Hw2.out _).mono ?_; rintro e _ ⟨rfl, rfl⟩
    go_wp2
    go_ret
    exact ⟨rfl, hbW⟩
  replace h2 := Decidable.not_not.1 h2
  have hd2 : decide (0 ≤ parent ∧ parent ≤ id - 1) = true := decide_eq_true h2
  rw [hd2] at Hw2 ⊢
  clear hd2
  by_cases h3 : ¬ (0 ≤ born ∧ born ≤ 1099511627776)
  · have hd : decide (0 ≤ born ∧ born ≤ 1099511627776) = false := decide_eq_false h3
    rw [hd] at Hw3 ⊢
    clear hd h3
    go_enter Tryz.func112, Tryz.ntmps112
    go_wp2_with fail
    refine (Hw1.out _).mono ?_; rintro e _ ⟨rfl, rfl⟩
    go_wp2_with fail
    refine (Hw2.out _).mono ?_; rintro e _ ⟨rfl, rfl⟩
    go_wp2_with fail
    refine (Hw3.out _).mono ?_; rintro e _ ⟨rfl, rfl⟩
    go_wp2
    go_ret
    exact ⟨rfl, hbW⟩
  replace h3 := Decidable.not_not.1 h3
  have hd3 : decide (0 ≤ born ∧ born ≤ 1099511627776) = true := decide_eq_true h3
  rw [hd3] at Hw3 ⊢
  clear hd3
  by_cases h4 : ¬ (1 ≤ (rcpts.length : Int) ∧ (rcpts.length : Int) ≤ 8)
  · have hd : decide (1 ≤ (rcpts.length : Int) ∧ (rcpts.length : Int) ≤ 8) = false := decide_eq_false h4
    rw [hd] at Hw4 ⊢
    clear hd h4
    go_enter Tryz.func112, Tryz.ntmps112
    go_wp2_with fail
    refine (Hw1.out _).mono ?_; rintro e _ ⟨rfl, rfl⟩
    go_wp2_with fail
    refine (Hw2.out _).mono ?_; rintro e _ ⟨rfl, rfl⟩
    go_wp2_with fail
    refine (Hw3.out _).mono ?_; rintro e _ ⟨rfl, rfl⟩
    go_wp2_with fail
    refine (Hw4.out _).mono ?_; rintro e _ ⟨rfl, rfl⟩
    go_wp2
    go_ret
    exact ⟨rfl, hbW⟩
  replace h4 := Decidable.not_not.1 h4
  have hd4 : decide (1 ≤ (rcpts.length : Int) ∧ (rcpts.length : Int) ≤ 8) = true := decide_eq_true h4
  rw [hd4] at Hw4 ⊢
  clear hd4
  by_cases h5 : ¬ ((body.length : Int) ≤ 8192)
  · rw [decide_eq_false (by omega : ¬ body.length ≤ 8192)]
    clear h2 h3 h4
    go_enter Tryz.func112, Tryz.ntmps112
    go_wp2_with fail
    refine (Hw1.out _).mono ?_; rintro e _ ⟨rfl, rfl⟩
    go_wp2_with fail
    refine (Hw2.out _).mono ?_; rintro e _ ⟨rfl, rfl⟩
    go_wp2_with fail
    refine (Hw3.out _).mono ?_; rintro e _ ⟨rfl, rfl⟩
    go_wp2_with fail
    refine (Hw4.out _).mono ?_; rintro e _ ⟨rfl, rfl⟩
    go_wp2
    go_ret
    exact ⟨rfl, hbW⟩
  replace h5 := Decidable.not_not.1 h5
  rw [decide_eq_true (by omega : body.length ≤ 8192)]
  have Hd2 := Lib.hid (Hdl.out (by omega))
  clear h2 h3 h4
  cases p6
  · go_enter Tryz.func112, Tryz.ntmps112
    go_wp2_with fail
    refine (Hw1.out _).mono ?_; rintro e _ ⟨rfl, rfl⟩
    go_wp2_with fail
    refine (Hw2.out _).mono ?_; rintro e _ ⟨rfl, rfl⟩
    go_wp2_with fail
    refine (Hw3.out _).mono ?_; rintro e _ ⟨rfl, rfl⟩
    go_wp2_with fail
    refine (Hw4.out _).mono ?_; rintro e _ ⟨rfl, rfl⟩
    go_wp2_with fail
    refine (Hd2.out).mono ?_; rintro e w6 ⟨⟨x, rfl⟩, hb6⟩
    have hb6' := hbW.trans (hb6.mono hbW.size)
    have c3' := Hcell.out w6 hb6 3 _ rfl
    have c4' := Hcell.out w6 hb6 4 _ rfl
    go_wp2
    go_ret
    exact ⟨rfl, hb6'⟩
  by_cases h7 : frm.length = 0
  · have hz := empty_of_size (Hfl.out.1 h7)
    rw [decide_eq_true h7]
    have hcl : ∀ W', Below W.heap.size W W' → W'.cell? ⟨w.heap.size, 3, none⟩ = some (.string ⟨#[]⟩) := fun W' hB => by rw [← hz]; exact Hcell.out W' hB 3 _ rfl
    have Hcl := Lib.hid hcl
    clear hcl h7 hz
    cases p9
    · go_enter Tryz.func112, Tryz.ntmps112
      go_wp2_with fail
      refine (Hw1.out _).mono ?_; rintro e _ ⟨rfl, rfl⟩
      go_wp2_with fail
      refine (Hw2.out _).mono ?_; rintro e _ ⟨rfl, rfl⟩
      go_wp2_with fail
      refine (Hw3.out _).mono ?_; rintro e _ ⟨rfl, rfl⟩
      go_wp2_with fail
      refine (Hw4.out _).mono ?_; rintro e _ ⟨rfl, rfl⟩
      go_wp2_with fail
      refine (Hd2.out).mono ?_; rintro e w6 ⟨⟨x, rfl⟩, hb6⟩
      have hb6' := hbW.trans (hb6.mono hbW.size)
      have c3' := Hcl.out w6 hb6
      have c4' := Hcell.out w6 hb6 4 _ rfl
      go_wp2_with fail
      refine (Hcf.out _ (HRW.out w6 hb6) (HMW.out w6 hb6)).mono ?_; rintro e w9 ⟨rfl, hb9⟩
      go_wp2
      go_ret
      exact ⟨rfl, hb6'.trans (hb9.mono hb6'.size)⟩
    · go_enter Tryz.func112, Tryz.ntmps112
      go_wp2_with fail
      refine (Hw1.out _).mono ?_; rintro e _ ⟨rfl, rfl⟩
      go_wp2_with fail
      refine (Hw2.out _).mono ?_; rintro e _ ⟨rfl, rfl⟩
      go_wp2_with fail
      refine (Hw3.out _).mono ?_; rintro e _ ⟨rfl, rfl⟩
      go_wp2_with fail
      refine (Hw4.out _).mono ?_; rintro e _ ⟨rfl, rfl⟩
      go_wp2_with fail
      refine (Hd2.out).mono ?_; rintro e w6 ⟨⟨x, rfl⟩, hb6⟩
      have hb6' := hbW.trans (hb6.mono hbW.size)
      have c3' := Hcl.out w6 hb6
      have c4' := Hcell.out w6 hb6 4 _ rfl
      go_wp2_with fail
      refine (Hcf.out _ (HRW.out w6 hb6) (HMW.out w6 hb6)).mono ?_; rintro e w9 ⟨rfl, hb9⟩
      go_wp2
      go_ret
      exact ⟨rfl, hb6'.trans (hb9.mono hb6'.size)⟩
  · have hne : (strL frm).size ≠ 0 := fun h => h7 (Hfl.out.2 h)
    have hb1 := empty_ne hne
    have hb2 : (strL frm).toList.isEmpty = false := by simpa using hb1
    rw [decide_eq_false h7]
    clear h7 hne
    cases p8
    · go_enter Tryz.func112, Tryz.ntmps112
      go_wp2_with fail
      refine (Hw1.out _).mono ?_; rintro e _ ⟨rfl, rfl⟩
      go_wp2_with fail
      refine (Hw2.out _).mono ?_; rintro e _ ⟨rfl, rfl⟩
      go_wp2_with fail
      refine (Hw3.out _).mono ?_; rintro e _ ⟨rfl, rfl⟩
      go_wp2_with fail
      refine (Hw4.out _).mono ?_; rintro e _ ⟨rfl, rfl⟩
      go_wp2_with fail
      refine (Hd2.out).mono ?_; rintro e w6 ⟨⟨x, rfl⟩, hb6⟩
      have hb6' := hbW.trans (hb6.mono hbW.size)
      have c3' := Hcell.out w6 hb6 3 _ rfl
      have c4' := Hcell.out w6 hb6 4 _ rfl
      go_wp2_with fail
      refine (Hbx.out _ (HMW.out w6 hb6)).mono ?_; rintro e w8 ⟨rfl, hb8⟩
      have hb68 := hb6.trans (hb8.mono hb6.size)
      have hb8' := hbW.trans (hb68.mono hbW.size)
      have c4'' := Hcell.out w8 hb68 4 _ rfl
      go_wp2
      go_ret
      exact ⟨rfl, hb8'⟩
    · cases p9
      · go_enter Tryz.func112, Tryz.ntmps112
        go_wp2_with fail
        refine (Hw1.out _).mono ?_; rintro e _ ⟨rfl, rfl⟩
        go_wp2_with fail
        refine (Hw2.out _).mono ?_; rintro e _ ⟨rfl, rfl⟩
        go_wp2_with fail
        refine (Hw3.out _).mono ?_; rintro e _ ⟨rfl, rfl⟩
        go_wp2_with fail
        refine (Hw4.out _).mono ?_; rintro e _ ⟨rfl, rfl⟩
        go_wp2_with fail
        refine (Hd2.out).mono ?_; rintro e w6 ⟨⟨x, rfl⟩, hb6⟩
        have hb6' := hbW.trans (hb6.mono hbW.size)
        have c3' := Hcell.out w6 hb6 3 _ rfl
        have c4' := Hcell.out w6 hb6 4 _ rfl
        go_wp2_with fail
        refine (Hbx.out _ (HMW.out w6 hb6)).mono ?_; rintro e w8 ⟨rfl, hb8⟩
        have hb68 := hb6.trans (hb8.mono hb6.size)
        have hb8' := hbW.trans (hb68.mono hbW.size)
        have c4'' := Hcell.out w8 hb68 4 _ rfl
        go_wp2_with fail
        refine (Hcf.out _ (HRW.out w8 hb68) (HMW.out w8 hb68)).mono ?_; rintro e w9 ⟨rfl, hb9⟩
        go_wp2
        go_ret
        exact ⟨rfl, hb8'.trans (hb9.mono hb8'.size)⟩
      · go_enter Tryz.func112, Tryz.ntmps112
        go_wp2_with fail
        refine (Hw1.out _).mono ?_; rintro e _ ⟨rfl, rfl⟩
        go_wp2_with fail
        refine (Hw2.out _).mono ?_; rintro e _ ⟨rfl, rfl⟩
        go_wp2_with fail
        refine (Hw3.out _).mono ?_; rintro e _ ⟨rfl, rfl⟩
        go_wp2_with fail
        refine (Hw4.out _).mono ?_; rintro e _ ⟨rfl, rfl⟩
        go_wp2_with fail
        refine (Hd2.out).mono ?_; rintro e w6 ⟨⟨x, rfl⟩, hb6⟩
        have hb6' := hbW.trans (hb6.mono hbW.size)
        have c3' := Hcell.out w6 hb6 3 _ rfl
        have c4' := Hcell.out w6 hb6 4 _ rfl
        go_wp2_with fail
        refine (Hbx.out _ (HMW.out w6 hb6)).mono ?_; rintro e w8 ⟨rfl, hb8⟩
        have hb68 := hb6.trans (hb8.mono hb6.size)
        have hb8' := hbW.trans (hb68.mono hbW.size)
        have c4'' := Hcell.out w8 hb68 4 _ rfl
        go_wp2_with fail
        refine (Hcf.out _ (HRW.out w8 hb68) (HMW.out w8 hb68)).mono ?_; rintro e w9 ⟨rfl, hb9⟩
        go_wp2
        go_ret
        exact ⟨rfl, hb8'.trans (hb9.mono hb8'.size)⟩
end Go.Proofs.YtffnbkmigapmjaaGreatDoor

set_option linter.unusedSimpArgs false
set_option linter.unusedVariables false
namespace Go.Proofs.YtffnbkmigapmjaaGreatDoor
open Go.RowKit
end Go.Proofs.YtffnbkmigapmjaaGreatDoor

set_option linter.unusedSimpArgs false
set_option linter.unusedVariables false
namespace Go.Proofs.YtffnbkmigapmjaaGreatDoor
open Go.RowKit
theorem mail_eq (x0 x1 x2 : Int) (x3 : List UInt8) (x4 : List (List UInt8)) (x5 : List UInt8) (y0 y1 y2 : Int) (y3 : List UInt8) (y4 : List (List UInt8)) (y5 : List UInt8) :
    MailD.mk x0 x1 x2 x3 x4 x5 = MailD.mk y0 y1 y2 y3 y4 y5 ↔ x0 = y0 ∧ x1 = y1 ∧ x2 = y2 ∧ x3 = y3 ∧ x4 = y4 ∧ x5 = y5 := by rw [MailD.mk.injEq]
instance : DecidableEq MailD := fun ⟨_, _, _, _, _, _⟩ ⟨_, _, _, _, _, _⟩ => decidable_of_iff _ (mail_eq ..).symm
end Go.Proofs.YtffnbkmigapmjaaGreatDoor

set_option linter.unusedSimpArgs false
set_option linter.unusedVariables false
namespace Go.Proofs.YtffnbkmigapmjaaGreatDoor
open Go.RowKit
end Go.Proofs.YtffnbkmigapmjaaGreatDoor

set_option linter.unusedSimpArgs false
set_option linter.unusedVariables false
set_option maxRecDepth 100000
namespace Go.Proofs.YtffnbkmigapmjaaGreatDoor
open Go.ChangeShapes Go.WideShapes Go.Deep Go.RowKit
/-- The library's variable holds a number, whatever the world. -/
theorem maxOk_of {W : World} (h : W.ShapedOpen Tryz.prog) : MaxOk W :=
  Go.Proofs.cell_of_shapedOpen_int (zero := #[.int .i64 0]) (t := 3) h (of_decide_eq_true (by kernel_rfl)) (by kernel_rfl) rfl (by kernel_rfl) (by kernel_rfl) Tryz.underlying3
section
variable {H : Type} {enc : TypeId × Value → H} {W : World} {base : Nat} {held : Bool} {n : Nat} {c : Value} {y : DataW H × List MemPlace}
end
/-- A slice of bytes that comes in: its block is there. -/
theorem block_arg {W : World} {r : Reach} {b0 : Nat} {t e : TypeId} (ht : Tryz.prog.underlying t = some (.slice e)) {v : Value} (hv : Value.okWide Tryz.prog W r b0 t v) : ∀ k, v.ownBlock = some k → k < W.heap.size := by
  obtain ⟨a, len, cap, rfl⟩ := okWide_slice ht hv
  intro k hk
  cases a with
  | none => cases hk
  | some a =>
    cases hk
    simp only [Value.okWide, ht, Cell.okWide, Cell.ok] at hv
    obtain ⟨_, _, _, _, row, cells, hsh, _⟩ := hv
    unfold World.shape? at hsh
    rcases Nat.lt_or_ge a.block W.heap.size with h | h
    · exact h
    · rw [Array.getElem?_eq_none h] at hsh; cases hsh
section
variable {H : Type} {enc : TypeId × Value → H}
/-- 'There is an input that fits', where great tables are laid. -/
theorem witness_laid {C : Checked} {os : Os} {f : FuncId} {fn : Func} {s : OpenSpec} {conds : List PathCond} {apart : Bool} {laid : List (String × DataW Unit)} (w0 : World) (args : Array Value) (hos : w0.os = os)
    (hsh : (w0.forCall (fun _ _ => 0) ⟨#[], args, []⟩).Shaped C.prog)
    (hok : Input.okWideB C.prog (w0.forCall (fun _ _ => 0) ⟨#[], args, []⟩) f ⟨#[], args, []⟩ = true)
    (hrow : s.preRow enc C.prog fn conds apart laid (w0.forCall (fun _ _ => 0) ⟨#[], args, []⟩).memory args) :
    ∃ (w : World) (tape : Tape) (i : Input), w.os = os ∧ (w.forCall tape i).Shaped C.prog ∧ i.vars = [] ∧ Input.okWide C.prog (w.forCall tape i) .any w.heap.size f i ∧
      s.preRow enc C.prog fn conds apart laid (w.forCall tape i).memory i.args ∧ ({} : Assume).holds C.prog (lone (Frame.enter C.prog f i.args .normal) [] (w.forCall tape i)) :=
  ⟨w0, fun _ _ => 0, ⟨#[], args, []⟩, hos, hsh, (Input.okWide_of_okWideB (base := 0) hok).1, (Input.okWide_of_okWideB hok).2, hrow, by
    simp only [Assume.holds]
    exact ⟨by simp, by simp, (fun h => by cases h), by simp, by simp⟩⟩
end
end Go.Proofs.YtffnbkmigapmjaaGreatDoor

set_option linter.unusedSimpArgs false
set_option linter.unusedVariables false
set_option maxRecDepth 100000
namespace Go.Proofs.YtffnbkmigapmjaaGreatDoor
open Go.ChangeShapes Go.WideShapes Go.Deep Go.RowKit
section
variable {H : Type} {enc : TypeId × Value → H} {W : World} {r : Reach} {b0 base : Nat} {spare : Nat → Bool} {held : Bool} {v : Value} {d : DataW H} {p : List MemPlace}
theorem rdB_arg (hv : Value.okWide Tryz.prog W r b0 22 v) (h : DataW.Trod enc Tryz.prog W base (fun _ => true) held 22 v d p) : ∃ bs, RdB W v bs := by
  obtain ⟨a0, len0, cap0, rfl⟩ := okWide_slice Tryz.underlying22 hv
  obtain ⟨fuel, hf⟩ := h
  rcases open_ints Tryz.underlying22 Tryz.underlying5 (by kernel_rfl) hf with ⟨hcs, _⟩ | ⟨x, l, c, zs, hcs, _, hl, hm, hz, _, hcell, hwz⟩
  · simp [Value.cells] at hcs
    obtain ⟨rfl, rfl, rfl⟩ := hcs
    exact ⟨[], .inl ⟨_, _, rfl, by decide, rfl⟩⟩
  · simp [Value.cells] at hcs
    obtain ⟨rfl, rfl, rfl⟩ := hcs
    obtain ⟨bs, hb, _⟩ := rdB_of (w := W) (a := some x) (len := len0) (cap := cap0) (.inr ⟨_, rfl, hl, hm, by simpa using hz, hcell, hwz⟩)
    exact ⟨bs, hb⟩
end
end Go.Proofs.YtffnbkmigapmjaaGreatDoor

set_option linter.unusedSimpArgs false
set_option linter.unusedVariables false
set_option maxRecDepth 100000
namespace Go.Proofs.YtffnbkmigapmjaaGreatDoor
open Go.ChangeShapes Go.WideShapes Go.Deep Go.RowKit
section
variable {H : Type} {enc : TypeId × Value → H} {W : World} {r : Reach} {b0 base : Nat} {spare : Nat → Bool} {held : Bool} {v : Value} {d : DataW H} {p : List MemPlace}
theorem slice_told {t e : TypeId} (ht : Tryz.prog.underlying t = some (.slice e)) (hv : Value.okWide Tryz.prog W r b0 t v) (h : DataW.Trod enc Tryz.prog W base spare held t v d p) :
    NilOk v ∧ ∀ a len cap, v = .slice a len cap → (d = .nil ∧ len = 0) ∨ ∃ el sp, d = .slice el sp ∧ el.length = len := by
  obtain ⟨a0, len0, cap0, rfl⟩ := okWide_slice ht hv
  obtain ⟨fuel, hf⟩ := h
  rcases DataW.trod_slice ht hf with ⟨hcs, hd⟩ | ⟨a, len, cap, elems, rest, n, _, hcs, hd, _, _, _, hlen, _⟩
  · simp [Value.cells] at hcs
    obtain ⟨rfl, rfl, rfl⟩ := hcs
    refine ⟨fun l c h => (by cases h; exact ⟨rfl, rfl⟩), fun a l c h => .inl ?_⟩
    cases h
    exact ⟨congrArg Prod.fst hd, rfl⟩
  · simp [Value.cells] at hcs
    obtain ⟨rfl, rfl, rfl⟩ := hcs
    refine ⟨fun l c h => (by cases h), fun a l c h => .inr ?_⟩
    cases h
    exact ⟨_, _, congrArg Prod.fst hd, by simpa using hlen⟩
end
end Go.Proofs.YtffnbkmigapmjaaGreatDoor

set_option linter.unusedSimpArgs false
set_option linter.unusedVariables false
set_option maxRecDepth 100000
namespace Go.Proofs.YtffnbkmigapmjaaGreatDoor
open Go.RowKit Go.Maps
/-- A file's name: its bytes. -/
abbrev Nm := List UInt8
/-- How a map's element that points to a block reads: the block's number. -/
def ptrElem : Value → Option (DataW Unit × List MemPlace)
  | .pointer (some ⟨b, 0, none⟩) => some (.lit (.int .i64 b), [])
  | .pointer none => some (.nil, [])
  | _ => none
theorem ptrElem_inv {v : Value} {z : DataW Unit × List MemPlace} (h : ptrElem v = some z) : (v = .pointer none ∧ z = (.nil, [])) ∨ ∃ b : Nat, v = .pointer (some ⟨b, 0, none⟩) ∧ z = (.lit (.int .i64 b), []) := by
  unfold ptrElem at h
  split at h
  · cases h; exact .inr ⟨_, rfl, rfl⟩
  · cases h; exact .inl ⟨rfl, rfl⟩
  · cases h
/-- A directory: names, and the blocks of their files. -/
abbrev Dir := List (Nm × Nat)
def entD (p : Nm × Nat) : Lit × DataW Unit := (.string p.1, .lit (.int .i64 p.2))
def dirD (l : Dir) : DataW Unit := .map (l.map entD)
def Dir.look (l : Dir) (n : Nm) : Option Nat := (l.find? (fun p => p.1 == n)).map (·.2)
def Dir.ins (x : Nm × Nat) : Dir → Dir
  | [] => [x]
  | y :: r => if Lit.before (.string x.1) (.string y.1) then x :: y :: r else y :: Dir.ins x r
def Dir.del (l : Dir) (n : Nm) : Dir := l.filter (fun p => !(p.1 == n))
def Dir.put (l : Dir) (n : Nm) (x : Nat) : Dir := (Dir.del l n).ins (n, x)
theorem same_str (a b : Nm) : (Lit.string a).sameKey (.string b) = (a == b) := by
  unfold Lit.sameKey; rfl
theorem dirD_ins (x : Nm × Nat) : ∀ l : Dir, DataW.insert (entD x) (l.map entD) = (l.ins x).map entD
  | [] => rfl
  | y :: r => by
    rw [List.map_cons, DataW.insert, Dir.ins]
    show (if Lit.before (.string x.1) (.string y.1) then _ else _) = _
    split
    · rfl
    · rw [List.map_cons, dirD_ins x r]
theorem dirD_del (l : Dir) (n : Nm) : (dirD l).del (.string n) = dirD (l.del n) := by
  unfold dirD Dir.del
  show DataW.map _ = DataW.map _
  rw [List.filter_map]
  congr 1
theorem dirD_put (l : Dir) (n : Nm) (x : Nat) : (dirD l).put (.string n) (.lit (.int .i64 x)) = dirD (l.put n x) := by
  unfold Dir.put
  show DataW.map (DataW.insert (entD (n, x)) _) = _
  unfold dirD
  rw [← dirD_ins]
  congr 2
  unfold Dir.del
  rw [List.filter_map]
  congr 1
theorem dirD_has (l : Dir) (n : Nm) : Maps.has (dirD l) (.string n) = (l.look n).isSome := by
  unfold dirD Dir.look
  rw [Maps.has_eq, List.any_map, Option.isSome_map]
  induction l with
  | nil => rfl
  | cons p r ih =>
    rw [List.any_cons, List.find?_cons, ih]
    show ((p.1 == n) || _) = _
    cases p.1 == n <;> rfl
theorem dirD_at (l : Dir) (n : Nm) (z : DataW Unit) : (dirD l).atKey (.string n) z = match l.look n with | some x => DataW.lit (.int .i64 (x : Int)) | none => z := by
  unfold dirD Dir.look
  unfold DataW.atKey
  dsimp only
  rw [List.find?_map]
  have : ((fun p : Lit × DataW Unit => p.1.sameKey (.string n)) ∘ entD) = (fun p : Nm × Nat => p.1 == n) := rfl
  rw [this]
  cases List.find? (fun p : Nm × Nat => p.1 == n) l <;> rfl
theorem dirD_size (l : Dir) : Maps.size (dirD l) = l.length := by unfold dirD; rw [Maps.size_eq, List.length_map]
end Go.Proofs.YtffnbkmigapmjaaGreatDoor

set_option linter.unusedSimpArgs false
set_option linter.unusedVariables false
set_option maxRecDepth 100000
namespace Go.Proofs.YtffnbkmigapmjaaGreatDoor
open Go.RowKit Go.Maps
/-- A change of the directory that is not sure. -/
inductive Chg where
  | create (n : Nm) (x : Nat)
  | rename (a b : Nm)
  | unlink (n : Nm)
def Chg.on (c : Chg) (l : Dir) : Dir :=
  match c with
  | .create n x => l.put n x
  | .rename a b => match l.look a with | some x => (l.put b x).del a | none => l
  | .unlink n => l.del n
/-- A file: its bytes, how many are sure, and the slice that holds them. -/
structure FileC where
  bytes : List UInt8
  sure : Nat
  row : Value
/-- What a block of a disk is for. -/
inductive Role where
  | fs | now | sure | loose | box | file
  | bytes (x : Nat)
deriving DecidableEq
structure FsD where
  mn : Nat
  ms : Nat
  now : Dir
  sure : Dir
  lv : Value
  loose : List (Chg × Value)
  room : Int
  fuse : Int
  down : Bool
  file : Nat → Option FileC
abbrev Rho := Nat → Option Role
def FsHd (w : World) (f : Nat) (d : FsD) : Prop :=
  w.heap[f]? = some (.cells #[.map (some d.mn), .map (some d.ms), d.lv, .int .i64 d.room, .int .i64 d.fuse, .bool d.down] 96 (0, 0))
/-- A closure that carries out a change. -/
def ChgAt (w : World) (ρ : Rho) : Chg → Value → Prop
  | .create n x, v => ∃ b1 b2, v = .func (.func 52) #[] #[.pointer (some ⟨b1, 0, none⟩), .pointer (some ⟨b2, 0, none⟩)] ∧ ρ b1 = some .box ∧ ρ b2 = some .box ∧ w.heap[b1]? = some (.cells #[.pointer (some ⟨x, 0, none⟩)] 98 (0, 0)) ∧ w.heap[b2]? = some (.cells #[.string (strL n)] 9 (0, 0)) ∧ n.length ≤ 80
  | .rename a b, v => ∃ b1 b2, v = .func (.func 159) #[] #[.pointer (some ⟨b1, 0, none⟩), .pointer (some ⟨b2, 0, none⟩)] ∧ ρ b1 = some .box ∧ ρ b2 = some .box ∧ w.heap[b1]? = some (.cells #[.string (strL a)] 9 (0, 0)) ∧ w.heap[b2]? = some (.cells #[.string (strL b)] 9 (0, 0)) ∧ a.length ≤ 80 ∧ b.length ≤ 80
  | .unlink n, v => ∃ b1, v = .func (.func 140) #[] #[.pointer (some ⟨b1, 0, none⟩)] ∧ ρ b1 = some .box ∧ w.heap[b1]? = some (.cells #[.string (strL n)] 9 (0, 0)) ∧ n.length ≤ 80
structure FileAt' (w : World) (ρ : Rho) (x : Nat) (c : FileC) : Prop where
  role : ρ x = some .file
  hd : w.heap[x]? = some (.cells #[c.row, .int .i64 c.sure] 101 (0, 0))
  own : w.ownsRow 0 5 1 c.row c.bytes.length (c.bytes.map u8v)
  rown : ∀ k, c.row.ownBlock = some k → ρ k = some (.bytes x)
  small : c.bytes.length ≤ 16777216
  sure : c.sure ≤ c.bytes.length
/-- All of a disk but its own block. -/
structure FsRest (w : World) (d : FsD) (ρ : Rho) : Prop where
  rnow : ρ d.mn = some .now
  rsure : ρ d.ms = some .sure
  dnow : w.ownsMap Tryz.prog 9 ptrElem d.mn d.now.length (dirD d.now)
  dsure : w.ownsMap Tryz.prog 9 ptrElem d.ms d.sure.length (dirD d.sure)
  rlv : ∀ k, d.lv.ownBlock = some k → ρ k = some .loose
  own : w.ownsRow 0 124 1 d.lv d.loose.length (d.loose.map (·.2))
  chg : ∀ p ∈ d.loose, ChgAt w ρ p.1 p.2
  files : ∀ x c, d.file x = some c → FileAt' w ρ x c
  fnow : ∀ p ∈ d.now, (d.file p.2).isSome = true
  fsure : ∀ p ∈ d.sure, (d.file p.2).isSome = true
  lt : ∀ k, (ρ k).isSome = true → k < w.heap.size
structure FsAt (w : World) (f : Nat) (d : FsD) (ρ : Rho) : Prop where
  role : ρ f = some .fs
  hd : FsHd w f d
  rest : FsRest w d ρ
/-- What a call leaves as it was: all blocks but the disk's. -/
def Rho.has (ρ : Rho) (k : Nat) : Prop := (ρ k).isSome = true
theorem Rho.has_of {ρ : Rho} {k : Nat} {r : Role} (h : ρ k = some r) : ρ.has k := by unfold Rho.has; rw [h]; rfl
theorem Rho.ne {ρ : Rho} {j k : Nat} {r s : Role} (h : ρ j = some r) (h' : ρ k = some s) (hrs : r ≠ s) : j ≠ k := fun e => hrs (by rw [e, h'] at h; exact (Option.some.inj h).symm)
section
variable {w w' : World} {ρ : Rho} {F : Nat → Prop} {f : Nat} {d : FsD}
theorem ownsMap_keeps {b n : Nat} {k : TypeId} {D : DataW Unit} {R : Value → Option (DataW Unit × List MemPlace)} (h : w.ownsMap Tryz.prog k R b n D) (hk : Keeps F w w') (hF : ¬ F b) : w'.ownsMap Tryz.prog k R b n D := by
  obtain ⟨es, clock, h1, h2⟩ := h
  exact ⟨es, clock, hk.heap h1 hF, h2⟩
theorem ChgAt.keeps {c : Chg} {v : Value} (h : ChgAt w ρ c v) (hk : Keeps F w w') (hF : ∀ k, F k → ρ k ≠ some .box) : ChgAt w' ρ c v := by
  cases c with
  | create n x => obtain ⟨b1, b2, h1, h2, h3, h4, h5, h6⟩ := h; exact ⟨b1, b2, h1, h2, h3, hk.heap h4 (fun e => hF _ e h2), hk.heap h5 (fun e => hF _ e h3), h6⟩
  | rename a b => obtain ⟨b1, b2, h1, h2, h3, h4, h5, h6⟩ := h; exact ⟨b1, b2, h1, h2, h3, hk.heap h4 (fun e => hF _ e h2), hk.heap h5 (fun e => hF _ e h3), h6⟩
  | unlink n => obtain ⟨b1, h1, h2, h3, h4⟩ := h; exact ⟨b1, h1, h2, hk.heap h3 (fun e => hF _ e h2), h4⟩
theorem FileAt'.keeps {x : Nat} {c : FileC} (h : FileAt' w ρ x c) (hk : Keeps F w w') (h1 : ¬ F x) (h2 : ∀ k, F k → ρ k ≠ some (.bytes x)) : FileAt' w' ρ x c :=
  ⟨h.role, hk.heap h.hd h1, own_keeps h.own hk (fun k e g => h2 k g (h.rown k e)), h.rown, h.small, h.sure⟩
/-- What turns none of the disk's blocks leaves the disk. -/
theorem FsRest.keeps (h : FsRest w d ρ) (hk : Keeps F w w') (hF : ∀ k, F k → ρ k = none ∨ ρ k = some .fs) : FsRest w' d ρ := by
  have hn : ∀ {k : Nat} {r : Role}, ρ k = some r → r ≠ .fs → ¬ F k := fun h1 h2 h3 => by
    rcases hF _ h3 with e | e
    · rw [e] at h1; cases h1
    · rw [e] at h1; exact h2 (Option.some.inj h1).symm
  exact ⟨h.rnow, h.rsure, ownsMap_keeps h.dnow hk (hn h.rnow (by decide)), ownsMap_keeps h.dsure hk (hn h.rsure (by decide)), h.rlv, own_keeps h.own hk (fun k e => hn (h.rlv k e) (by decide)),
    fun p hp => (h.chg p hp).keeps hk (fun k e g => hn g (by decide) e), fun x c hx => (h.files x c hx).keeps hk (hn (h.files x c hx).role (by decide)) (fun k e g => hn g (by intro q; cases q) e),
    h.fnow, h.fsure, fun k e => Nat.lt_of_lt_of_le (h.lt k e) hk.size⟩
theorem FsAt.keeps (h : FsAt w f d ρ) (hk : Keeps F w w') (hF : ∀ k, F k → ρ k = none) : FsAt w' f d ρ :=
  ⟨h.role, hk.heap h.hd (fun e => by have := hF _ e; rw [h.role] at this; cases this), h.rest.keeps hk (fun k e => .inl (hF k e))⟩
theorem FsAt.below (h : FsAt w f d ρ) (hb : Below w.heap.size w w') : FsAt w' f d ρ :=
  h.keeps (F := fun _ => False) (Keeps.ofBelow hb) (fun _ e => e.elim)
end
theorem cells2 {w : World} {b : Nat} {t : TypeId} {c0 c1 : Value} (hb : w.heap[b]? = some (.cells #[c0, c1] t (0, 0))) :
    (w.cell? ⟨b, 0, none⟩ = some c0 ∧ w.cell? ⟨b, 1, none⟩ = some c1) ∧ (w.frozen? ⟨b, 0, none⟩ = false ∧ w.frozen? ⟨b, 1, none⟩ = false) :=
  ⟨⟨by rw [cell_of_row _ _ _ _ _ _ hb]; rfl, by rw [cell_of_row _ _ _ _ _ _ hb]; rfl⟩, frozen_of_row _ _ _ _ _ hb, frozen_of_row _ _ _ _ _ hb⟩
theorem fsHd_cells {w : World} {f : Nat} {d : FsD} (hb : FsHd w f d) :
    (w.cell? ⟨f, 0, none⟩ = some (.map (some d.mn)) ∧ w.cell? ⟨f, 1, none⟩ = some (.map (some d.ms)) ∧ w.cell? ⟨f, 2, none⟩ = some d.lv ∧ w.cell? ⟨f, 3, none⟩ = some (.int .i64 d.room) ∧ w.cell? ⟨f, 4, none⟩ = some (.int .i64 d.fuse) ∧ w.cell? ⟨f, 5, none⟩ = some (.bool d.down)) ∧
    (∀ j, w.frozen? ⟨f, j, none⟩ = false) :=
  ⟨⟨by rw [cell_of_row _ _ _ _ _ _ hb]; rfl, by rw [cell_of_row _ _ _ _ _ _ hb]; rfl, by rw [cell_of_row _ _ _ _ _ _ hb]; rfl, by rw [cell_of_row _ _ _ _ _ _ hb]; rfl, by rw [cell_of_row _ _ _ _ _ _ hb]; rfl, by rw [cell_of_row _ _ _ _ _ _ hb]; rfl⟩, fun j => frozen_of_row _ _ _ _ _ hb⟩
end Go.Proofs.YtffnbkmigapmjaaGreatDoor
