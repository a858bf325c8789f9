/-
  The walk of env.Good.
  The walks of pillarboxref01.Texts and pillarboxlaw10.light.
  The walks of slices.Equal of texts, pillarboxref10.Same and env.Same.
  The walk of pillarboxlaw10.light.
  A mail that comes in by value: its parts, and what its slices hold; the world that a call begins in; a witness with tables laid.
  Arguments of a law as the walks want them: byte slices, slices of marks.
  A mail that comes in by value, where the statement bounds how great the arguments are: its strings are not longer than that.
  A mark that comes in by value.
-/
import Derived.Test.YtffnbkmigapmjaaGreatDoorT4
import Derived.Test.YtffnbkmigapmjaaGreatDoorT6
import Derived.Test.YtffnbkmigapmjaaGreatDoorT9
import Derived.Deep.QuietTactic
import Derived.BigQuiet
import Derived.OpenShut
import Derived.Deep.Slices
import Derived.ChangeOld
import Derived.SliceStrings
import Derived.Lay
import Derived.MakeChecks
import Derived.Stop.Joined
import Derived.Shelf.Vars
import Derived.Test.YtffnbkmigapmjaaGreatDoorRows
set_option linter.unusedSimpArgs false
set_option linter.unusedVariables false
namespace Go.Proofs.YtffnbkmigapmjaaGreatDoor
open Go.RowKit
structure MailD where
 id : Int
 parent : Int
 born : Int
 frm : List UInt8
 rcpts : List (List UInt8)
 body : List UInt8
abbrev mailVal (m : MailD) (vr vb : Value) : Value := .agg #[.int .i64 m.id, .int .i64 m.parent, .int .i64 m.born, .string (strL m.frm), vr, vb]
def MailD.good (m : MailD) : Bool :=
 decide (1 ≤ m.id ∧ m.id ≤ 999999999) && (decide (0 ≤ m.parent ∧ m.parent ≤ m.id - 1) && (decide (0 ≤ m.born ∧ m.born ≤ 1099511627776) && (decide (1 ≤ (m.rcpts.length : Int) ∧ (m.rcpts.length : Int) ≤ 8) && (decide (m.body.length ≤ 8192) && (bodyB m.body && ((decide (m.frm.length = 0) || boxB m.frm) && m.rcpts.all boxB))))))
set_option maxRecDepth 100000 in
set_option maxHeartbeats 8000000 in
theorem envGood_calls (m : MailD) (vr vb : Value) (w : World) (hr : RdS w vr m.rcpts) (hb : RdB w vb m.body) (hsr : ∀ l ∈ m.rcpts, l.length < 4294967281) (hsf : m.frm.length < 4294967281) (hmax : MaxOk w) :
 Calls Tryz.prog 112 #[mailVal m vr vb] w fun e w' => e = .returned (.bool m.good) ∧ Below w.heap.size w w' := by
 obtain ⟨ar, capr, rfl, hlr, hcr⟩ := hr.form
 obtain ⟨ab, capb, rfl, hlb, hcb⟩ := hb.form
 obtain ⟨id, parent, born, frm, rcpts, body⟩ := m
 simp only at hr hb hsr hsf hlr hlb
 unfold MailD.good mailVal
 simp only
 obtain ⟨W, hW⟩ : ∃ W, w.alloc (.cells #[.int .i64 id, .int .i64 parent, .int .i64 born, .string (strL frm), .slice ar rcpts.length capr, .slice ab body.length capb] 29) = W := ⟨_, rfl⟩
 have hbW : Below w.heap.size w W := by rw [← hW]; exact (Below.refl _ _).alloc (Nat.le_refl _) _
 have hblk : W.heap[w.heap.size]? = some (.cells #[.int .i64 id, .int .i64 parent, .int .i64 born, .string (strL frm), .slice ar rcpts.length capr, .slice ab body.length capb] 29 (0, 0)) := by rw [← hW]; exact heap_alloc_new w _
 have hw1 := fun W => envWithin_calls id 1 999999999 W
 have hw2 := fun W => envWithin_calls parent 0 (id - 1) W
 have hw3 := fun W => envWithin_calls born 0 1099511627776 W
 have hw4 := fun W => envWithin_calls (rcpts.length : Int) 1 8 W
 have hdl := fun (h : body.length ≤ 8192) => dotsLines_calls (.slice ab body.length capb) body W (hb.below (Nat.le_refl _) hbW) (by omega) (hmax.below hbW)
 have hbx := fun W hM => envBox_calls (strL frm) W (by rw [strL_size]; exact hsf) hM
 have hcf := fun W (hR : RdS W (.slice ar rcpts.length capr) rcpts) hM => containsBad_calls (.slice ar rcpts.length capr) rcpts W hR hsr hM
 rw [strL_data] at hbx
 have hcell : ∀ W', Below W.heap.size W W' → ∀ (j : Nat) v, (#[Value.int .i64 id, .int .i64 parent, .int .i64 born, .string (strL frm), .slice ar rcpts.length capr, .slice ab body.length capb] : Array Value)[j]? = some v → W'.cell? ⟨w.heap.size, j, none⟩ = some v := by
  intro W' hB j v hv
  rw [cell_of_row _ _ _ _ _ _ ((hB.block _ (Array.getElem?_eq_some_iff.1 hblk).1).trans hblk)]
  exact hv
 have hRW : ∀ W', Below W.heap.size W W' → RdS W' (.slice ar rcpts.length capr) rcpts := fun W' hB => (hr.below (Nat.le_refl _) hbW).below (Nat.le_refl _) hB
 have hMW : ∀ W', Below W.heap.size W W' → MaxOk W' := fun W' hB => (hmax.below hbW).below hB
 have c0 := hcell W (Below.refl _ _) 0 _ rfl
 have c1 := hcell W (Below.refl _ _) 1 _ rfl
 have c2 := hcell W (Below.refl _ _) 2 _ rfl
 have c4 := hcell W (Below.refl _ _) 4 _ rfl
 have c5 := hcell W (Below.refl _ _) 5 _ rfl
 have hsf0 := strL_size frm
 generalize bodyB body = p6 at hdl
 generalize boxB frm = p8 at hbx
 generalize rcpts.all boxB = p9 at hcf
 have Hw1 := Lib.hid hw1
 have Hw2 := Lib.hid hw2
 have Hw3 := Lib.hid hw3
 have Hw4 := Lib.hid hw4
 have Hdl := Lib.hid hdl
 have Hbx := Lib.hid hbx
 have Hcf := Lib.hid hcf
 have Hcell := Lib.hid hcell
 have HRW := Lib.hid hRW
 have HMW := Lib.hid hMW
 have hfl : frm.length = 0 ↔ (strL frm).size = 0 := by rw [hsf0]
 have Hfl := Lib.hid hfl
 have HW := Lib.hid hW
 clear hw1 hw2 hw3 hw4 hdl hbx hcf hcell hRW hMW hr hb hsr hsf hmax hblk hsf0 hfl
 have hlri : (rcpts.length : Int) ≤ 9223372036854775807 := by omega
 have hlbi : (body.length : Int) ≤ 9223372036854775807 := by omega
 by_cases h1 : ¬ (1 ≤ id ∧ id ≤ 999999999)
 ·have hd : decide (1 ≤ id ∧ id ≤ 999999999) = false := decide_eq_false h1
  rw [hd] at Hw1 ⊢
  clear hd h1
  go_enter Tryz.func112, Tryz.ntmps112
  go_wp2_with fail
  refine (Hw1.out _).mono ?_; rintro e _ ⟨rfl, rfl⟩
  go_wp2
  go_ret
  exact ⟨rfl, hbW⟩
 replace h1 := Decidable.not_not.1 h1
 have hd1 : decide (1 ≤ id ∧ id ≤ 999999999) = true := decide_eq_true h1
 rw [hd1] at Hw1 ⊢
 clear hd1
 obtain ⟨h1a, h1b⟩ := h1
 by_cases h2 : ¬ (0 ≤ parent ∧ parent ≤ id - 1)
 ·have hd : decide (0 ≤ parent ∧ parent ≤ id - 1) = false := decide_eq_false h2
  rw [hd] at Hw2 ⊢
  clear hd h2
  go_enter Tryz.func112, Tryz.ntmps112
  go_wp2_with fail
  refine (Hw1.out _).mono ?_; rintro e _ ⟨rfl, rfl⟩
  go_wp2_with fail
  refine (Hw2.out _).mono ?_; rintro e _ ⟨rfl, rfl⟩
  go_wp2
  go_ret
  exact ⟨rfl, hbW⟩
 replace h2 := Decidable.not_not.1 h2
 have hd2 : decide (0 ≤ parent ∧ parent ≤ id - 1) = true := decide_eq_true h2
 rw [hd2] at Hw2 ⊢
 clear hd2
 by_cases h3 : ¬ (0 ≤ born ∧ born ≤ 1099511627776)
 ·have hd : decide (0 ≤ born ∧ born ≤ 1099511627776) = false := decide_eq_false h3
  rw [hd] at Hw3 ⊢
  clear hd h3
  go_enter Tryz.func112, Tryz.ntmps112
  go_wp2_with fail
  refine (Hw1.out _).mono ?_; rintro e _ ⟨rfl, rfl⟩
  go_wp2_with fail
  refine (Hw2.out _).mono ?_; rintro e _ ⟨rfl, rfl⟩
  go_wp2_with fail
  refine (Hw3.out _).mono ?_; rintro e _ ⟨rfl, rfl⟩
  go_wp2
  go_ret
  exact ⟨rfl, hbW⟩
 replace h3 := Decidable.not_not.1 h3
 have hd3 : decide (0 ≤ born ∧ born ≤ 1099511627776) = true := decide_eq_true h3
 rw [hd3] at Hw3 ⊢
 clear hd3
 by_cases h4 : ¬ (1 ≤ (rcpts.length : Int) ∧ (rcpts.length : Int) ≤ 8)
 ·have hd : decide (1 ≤ (rcpts.length : Int) ∧ (rcpts.length : Int) ≤ 8) = false := decide_eq_false h4
  rw [hd] at Hw4 ⊢
  clear hd h4
  go_enter Tryz.func112, Tryz.ntmps112
  go_wp2_with fail
  refine (Hw1.out _).mono ?_; rintro e _ ⟨rfl, rfl⟩
  go_wp2_with fail
  refine (Hw2.out _).mono ?_; rintro e _ ⟨rfl, rfl⟩
  go_wp2_with fail
  refine (Hw3.out _).mono ?_; rintro e _ ⟨rfl, rfl⟩
  go_wp2_with fail
  refine (Hw4.out _).mono ?_; rintro e _ ⟨rfl, rfl⟩
  go_wp2
  go_ret
  exact ⟨rfl, hbW⟩
 replace h4 := Decidable.not_not.1 h4
 have hd4 : decide (1 ≤ (rcpts.length : Int) ∧ (rcpts.length : Int) ≤ 8) = true := decide_eq_true h4
 rw [hd4] at Hw4 ⊢
 clear hd4
 by_cases h5 : ¬ ((body.length : Int) ≤ 8192)
 ·rw [decide_eq_false (by omega : ¬ body.length ≤ 8192)]
  clear h2 h3 h4
  go_enter Tryz.func112, Tryz.ntmps112
  go_wp2_with fail
  refine (Hw1.out _).mono ?_; rintro e _ ⟨rfl, rfl⟩
  go_wp2_with fail
  refine (Hw2.out _).mono ?_; rintro e _ ⟨rfl, rfl⟩
  go_wp2_with fail
  refine (Hw3.out _).mono ?_; rintro e _ ⟨rfl, rfl⟩
  go_wp2_with fail
  refine (Hw4.out _).mono ?_; rintro e _ ⟨rfl, rfl⟩
  go_wp2
  go_ret
  exact ⟨rfl, hbW⟩
 replace h5 := Decidable.not_not.1 h5
 rw [decide_eq_true (by omega : body.length ≤ 8192)]
 have Hd2 := Lib.hid (Hdl.out (by omega))
 clear h2 h3 h4
 cases p6
 ·go_enter Tryz.func112, Tryz.ntmps112
  go_wp2_with fail
  refine (Hw1.out _).mono ?_; rintro e _ ⟨rfl, rfl⟩
  go_wp2_with fail
  refine (Hw2.out _).mono ?_; rintro e _ ⟨rfl, rfl⟩
  go_wp2_with fail
  refine (Hw3.out _).mono ?_; rintro e _ ⟨rfl, rfl⟩
  go_wp2_with fail
  refine (Hw4.out _).mono ?_; rintro e _ ⟨rfl, rfl⟩
  go_wp2_with fail
  refine (Hd2.out).mono ?_; rintro e w6 ⟨⟨x, rfl⟩, hb6⟩
  have hb6' := hbW.trans (hb6.mono hbW.size)
  have c3' := Hcell.out w6 hb6 3 _ rfl
  have c4' := Hcell.out w6 hb6 4 _ rfl
  go_wp2
  go_ret
  exact ⟨rfl, hb6'⟩
 by_cases h7 : frm.length = 0
 ·have hz := empty_of_size (Hfl.out.1 h7)
  rw [decide_eq_true h7]
  have hcl : ∀ W', Below W.heap.size W W' → W'.cell? ⟨w.heap.size, 3, none⟩ = some (.string ⟨#[]⟩) := fun W' hB => by rw [← hz]; exact Hcell.out W' hB 3 _ rfl
  have Hcl := Lib.hid hcl
  clear hcl h7 hz
  cases p9
  ·go_enter Tryz.func112, Tryz.ntmps112
   go_wp2_with fail
   refine (Hw1.out _).mono ?_; rintro e _ ⟨rfl, rfl⟩
   go_wp2_with fail
   refine (Hw2.out _).mono ?_; rintro e _ ⟨rfl, rfl⟩
   go_wp2_with fail
   refine (Hw3.out _).mono ?_; rintro e _ ⟨rfl, rfl⟩
   go_wp2_with fail
   refine (Hw4.out _).mono ?_; rintro e _ ⟨rfl, rfl⟩
   go_wp2_with fail
   refine (Hd2.out).mono ?_; rintro e w6 ⟨⟨x, rfl⟩, hb6⟩
   have hb6' := hbW.trans (hb6.mono hbW.size)
   have c3' := Hcl.out w6 hb6
   have c4' := Hcell.out w6 hb6 4 _ rfl
   go_wp2_with fail
   refine (Hcf.out _ (HRW.out w6 hb6) (HMW.out w6 hb6)).mono ?_; rintro e w9 ⟨rfl, hb9⟩
   go_wp2
   go_ret
   exact ⟨rfl, hb6'.trans (hb9.mono hb6'.size)⟩
  ·go_enter Tryz.func112, Tryz.ntmps112
   go_wp2_with fail
   refine (Hw1.out _).mono ?_; rintro e _ ⟨rfl, rfl⟩
   go_wp2_with fail
   refine (Hw2.out _).mono ?_; rintro e _ ⟨rfl, rfl⟩
   go_wp2_with fail
   refine (Hw3.out _).mono ?_; rintro e _ ⟨rfl, rfl⟩
   go_wp2_with fail
   refine (Hw4.out _).mono ?_; rintro e _ ⟨rfl, rfl⟩
   go_wp2_with fail
   refine (Hd2.out).mono ?_; rintro e w6 ⟨⟨x, rfl⟩, hb6⟩
   have hb6' := hbW.trans (hb6.mono hbW.size)
   have c3' := Hcl.out w6 hb6
   have c4' := Hcell.out w6 hb6 4 _ rfl
   go_wp2_with fail
   refine (Hcf.out _ (HRW.out w6 hb6) (HMW.out w6 hb6)).mono ?_; rintro e w9 ⟨rfl, hb9⟩
   go_wp2
   go_ret
   exact ⟨rfl, hb6'.trans (hb9.mono hb6'.size)⟩
 ·have hne : (strL frm).size ≠ 0 := fun h => h7 (Hfl.out.2 h)
  have hb1 := empty_ne hne
  have hb2 : (strL frm).toList.isEmpty = false := by simpa using hb1
  rw [decide_eq_false h7]
  clear h7 hne
  cases p8
  ·go_enter Tryz.func112, Tryz.ntmps112
   go_wp2_with fail
   refine (Hw1.out _).mono ?_; rintro e _ ⟨rfl, rfl⟩
   go_wp2_with fail
   refine (Hw2.out _).mono ?_; rintro e _ ⟨rfl, rfl⟩
   go_wp2_with fail
   refine (Hw3.out _).mono ?_; rintro e _ ⟨rfl, rfl⟩
   go_wp2_with fail
   refine (Hw4.out _).mono ?_; rintro e _ ⟨rfl, rfl⟩
   go_wp2_with fail
   refine (Hd2.out).mono ?_; rintro e w6 ⟨⟨x, rfl⟩, hb6⟩
   have hb6' := hbW.trans (hb6.mono hbW.size)
   have c3' := Hcell.out w6 hb6 3 _ rfl
   have c4' := Hcell.out w6 hb6 4 _ rfl
   go_wp2_with fail
   refine (Hbx.out _ (HMW.out w6 hb6)).mono ?_; rintro e w8 ⟨rfl, hb8⟩
   have hb68 := hb6.trans (hb8.mono hb6.size)
   have hb8' := hbW.trans (hb68.mono hbW.size)
   have c4'' := Hcell.out w8 hb68 4 _ rfl
   go_wp2
   go_ret
   exact ⟨rfl, hb8'⟩
  ·cases p9
   ·go_enter Tryz.func112, Tryz.ntmps112
    go_wp2_with fail
    refine (Hw1.out _).mono ?_; rintro e _ ⟨rfl, rfl⟩
    go_wp2_with fail
    refine (Hw2.out _).mono ?_; rintro e _ ⟨rfl, rfl⟩
    go_wp2_with fail
    refine (Hw3.out _).mono ?_; rintro e _ ⟨rfl, rfl⟩
    go_wp2_with fail
    refine (Hw4.out _).mono ?_; rintro e _ ⟨rfl, rfl⟩
    go_wp2_with fail
    refine (Hd2.out).mono ?_; rintro e w6 ⟨⟨x, rfl⟩, hb6⟩
    have hb6' := hbW.trans (hb6.mono hbW.size)
    have c3' := Hcell.out w6 hb6 3 _ rfl
    have c4' := Hcell.out w6 hb6 4 _ rfl
    go_wp2_with fail
    refine (Hbx.out _ (HMW.out w6 hb6)).mono ?_; rintro e w8 ⟨rfl, hb8⟩
    have hb68 := hb6.trans (hb8.mono hb6.size)
    have hb8' := hbW.trans (hb68.mono hbW.size)
    have c4'' := Hcell.out w8 hb68 4 _ rfl
    go_wp2_with fail
    refine (Hcf.out _ (HRW.out w8 hb68) (HMW.out w8 hb68)).mono ?_; rintro e w9 ⟨rfl, hb9⟩
    go_wp2
    go_ret
    exact ⟨rfl, hb8'.trans (hb9.mono hb8'.size)⟩
   ·go_enter Tryz.func112, Tryz.ntmps112
    go_wp2_with fail
    refine (Hw1.out _).mono ?_; rintro e _ ⟨rfl, rfl⟩
    go_wp2_with fail
    refine (Hw2.out _).mono ?_; rintro e _ ⟨rfl, rfl⟩
    go_wp2_with fail
    refine (Hw3.out _).mono ?_; rintro e _ ⟨rfl, rfl⟩
    go_wp2_with fail
    refine (Hw4.out _).mono ?_; rintro e _ ⟨rfl, rfl⟩
    go_wp2_with fail
    refine (Hd2.out).mono ?_; rintro e w6 ⟨⟨x, rfl⟩, hb6⟩
    have hb6' := hbW.trans (hb6.mono hbW.size)
    have c3' := Hcell.out w6 hb6 3 _ rfl
    have c4' := Hcell.out w6 hb6 4 _ rfl
    go_wp2_with fail
    refine (Hbx.out _ (HMW.out w6 hb6)).mono ?_; rintro e w8 ⟨rfl, hb8⟩
    have hb68 := hb6.trans (hb8.mono hb6.size)
    have hb8' := hbW.trans (hb68.mono hbW.size)
    have c4'' := Hcell.out w8 hb68 4 _ rfl
    go_wp2_with fail
    refine (Hcf.out _ (HRW.out w8 hb68) (HMW.out w8 hb68)).mono ?_; rintro e w9 ⟨rfl, hb9⟩
    go_wp2
    go_ret
    exact ⟨rfl, hb8'.trans (hb9.mono hb8'.size)⟩
end Go.Proofs.YtffnbkmigapmjaaGreatDoor
namespace Go.Proofs.YtffnbkmigapmjaaGreatDoor
open Go.RowKit
set_option maxRecDepth 100000 in
set_option maxHeartbeats 4000000 in
theorem refTexts_calls (v1 v2 : Value) (xs ys : List (List UInt8)) (w : World) (h1 : RdS w v1 xs) (h2 : RdS w v2 ys) :
 Calls Tryz.prog 122 #[v1, v2] w fun e w' => e = .returned (.bool (decide (xs = ys))) ∧ Below w.heap.size w w' := by
 obtain ⟨a1, cap1, rfl, hl1, hc1⟩ := h1.form
 obtain ⟨a2, cap2, rfl, hl2, hc2⟩ := h2.form
 by_cases hlen : (xs.length : Int) = (ys.length : Int)
 ·have hlen' : xs.length = ys.length := by omega
  rw [← hlen'] at h2 hl2 ⊢
  have H1 := Lib.hid h1
  have H2 := Lib.hid h2
  have Hlen := Lib.hid hlen'
  have hni : (xs.length : Int) ≤ 9223372036854775807 := by omega
  clear hlen hlen' h1 h2
  go_enter Tryz.func122, Tryz.ntmps122
  go_wp2
  go_loopw [5] (fun i wr => ∃ j : Nat, j ≤ xs.length ∧ i = .int .i64 j ∧ xs.take j = ys.take j ∧ Below w.heap.size w wr) (fun i _ => xs.length - (intOf i).toNat)
  case atStart => exact ⟨0, Nat.zero_le _, rfl, rfl, Below.refl _ _⟩
  case round =>
   obtain ⟨j, hj, rfl, htk, hbw⟩ := hrel
   by_cases hlt : j < xs.length
   ·obtain ⟨x, hx⟩ : ∃ x, xs[j]? = some x := ⟨_, List.getElem?_eq_getElem hlt⟩
    obtain ⟨y, hy⟩ : ∃ y, ys[j]? = some y := ⟨_, List.getElem?_eq_getElem (by rw [← Hlen.out]; exact hlt)⟩
    obtain ⟨b1, o1, k1, e1, _, p1⟩ := RdS.at (H1.out.below (Nat.le_refl _) hbw) hx
    have hr2 := H2.out.below (Nat.le_refl _) hbw
    obtain ⟨b2, o2, k2, e2, _, p2⟩ := RdS.at hr2 hy
    cases e1
    simp only [Value.slice.injEq] at e2
    obtain ⟨rfl, _, rfl⟩ := e2
    have hj0 : (0 : Int) ≤ (j : Int) := by omega
    have hj1 : (j : Int) < (xs.length : Int) := by omega
    by_cases hxy : x = y
    ·subst hxy
     have hn : xs.take (j + 1) = ys.take (j + 1) := by rw [take_snoc hx, take_snoc hy, htk]
     have Hn := Lib.hid hn
     clear hn htk hx hy hr2
     generalize strL x = sx at p1 p2
     go_wp2
     go_quiet (fail)
     go_wp2
     go_roundw
     case rel => exact ⟨j + 1, by omega, by simp, Hn.out, below_drewN hbw _⟩
     case measure => simp [intOf] <;> omega
    ·have hne : xs ≠ ys := fun e => by rw [e, hy] at hx; cases hx; exact hxy rfl
     have hb : ((strL x).toList == (strL y).toList) = false := (Lib.bytes_beq_false_iff _ _).2 (fun e => hxy (strL_inj e))
     have Hne := Lib.hid hne
     clear hne htk hx hy hr2 hxy
     generalize strL x = sx at p1 hb
     generalize strL y = sy at p2 hb
     go_wp2
     go_quiet (fail)
     go_wp2
     go_ret
     exact ⟨by rw [decide_eq_false Hne.out]; rfl, below_drewN hbw _⟩
   ·have hje : j = xs.length := by omega
    have heq : xs = ys := by
     rw [hje, List.take_of_length_le (Nat.le_refl _), List.take_of_length_le (by rw [Hlen.out]; exact Nat.le_refl _)] at htk; exact htk
    have Heq := Lib.hid heq
    have hjl : ¬ ((j : Int) < (xs.length : Int)) := by omega
    clear htk heq hje
    go_wp2
    go_ret
    exact ⟨by rw [decide_eq_true Heq.out]; rfl, hbw⟩
 ·have hne : xs ≠ ys := fun e => hlen (by rw [e])
  have Hne := Lib.hid hne
  have hq : ((xs.length : Int) == (ys.length : Int)) = false := by simpa using hlen
  clear hne
  go_enter Tryz.func122, Tryz.ntmps122
  go_wp2
  go_ret
  exact ⟨by rw [decide_eq_false Hne.out]; rfl, Below.refl _ _⟩
def MailD.light (m : MailD) : Bool := decide (m.rcpts = [] ∨ m.rcpts.length ≤ 50) && (m.rcpts.all (fun l => decide (l.length ≤ 200)) && (decide (m.frm.length ≤ 200) && decide (m.body.length ≤ 9000)))
end Go.Proofs.YtffnbkmigapmjaaGreatDoor
namespace Go.Proofs.YtffnbkmigapmjaaGreatDoor
open Go.RowKit
theorem mail_eq (x0 x1 x2 : Int) (x3 : List UInt8) (x4 : List (List UInt8)) (x5 : List UInt8) (y0 y1 y2 : Int) (y3 : List UInt8) (y4 : List (List UInt8)) (y5 : List UInt8) :
 MailD.mk x0 x1 x2 x3 x4 x5 = MailD.mk y0 y1 y2 y3 y4 y5 ↔ x0 = y0 ∧ x1 = y1 ∧ x2 = y2 ∧ x3 = y3 ∧ x4 = y4 ∧ x5 = y5 := by rw [MailD.mk.injEq]
instance : DecidableEq MailD := fun ⟨_, _, _, _, _, _⟩ ⟨_, _, _, _, _, _⟩ => decidable_of_iff _ (mail_eq ..).symm
theorem decide_eq_iff_iff {q : Prop} [Decidable q] {p : Bool} (h : decide q = p) : (p = true) ↔ q := by rw [← h]; exact decide_eq_true_iff
set_option maxRecDepth 100000 in
set_option maxHeartbeats 4000000 in
theorem refSame_calls (a b : MailD) (ra ba rb bb : Value) (w : World) (h1 : RdS w ra a.rcpts) (h2 : RdB w ba a.body) (h3 : RdS w rb b.rcpts) (h4 : RdB w bb b.body) :
 Calls Tryz.prog 79 #[mailVal a ra ba, mailVal b rb bb] w fun e w' => e = .returned (.bool (decide (a = b))) ∧ Below w.heap.size w w' := by
 obtain ⟨x0, x1, x2, x3, x4, x5⟩ := a
 obtain ⟨y0, y1, y2, y3, y4, y5⟩ := b
 simp only at h1 h2 h3 h4
 unfold mailVal
 simp only
 obtain ⟨p, hp⟩ : ∃ p, decide (MailD.mk x0 x1 x2 x3 x4 x5 = MailD.mk y0 y1 y2 y3 y4 y5) = p := ⟨_, rfl⟩
 rw [hp]
 have hpi := (decide_eq_iff_iff hp).trans (mail_eq ..)
 obtain ⟨W1, hW1⟩ : ∃ W1, w.alloc (.cells #[.int .i64 x0, .int .i64 x1, .int .i64 x2, .string (strL x3), ra, ba] 29) = W1 := ⟨_, rfl⟩
 obtain ⟨W, hW⟩ : ∃ W, W1.alloc (.cells #[.int .i64 y0, .int .i64 y1, .int .i64 y2, .string (strL y3), rb, bb] 29) = W := ⟨_, rfl⟩
 have hbW1 : Below w.heap.size w W1 := by rw [← hW1]; exact (Below.refl _ _).alloc (Nat.le_refl _) _
 have hbW : Below w.heap.size w W := by rw [← hW]; exact hbW1.alloc hbW1.size _
 have hs1 : W1.heap.size = w.heap.size + 1 := by rw [← hW1]; simp
 have hblk1 : W.heap[w.heap.size]? = some (.cells #[.int .i64 x0, .int .i64 x1, .int .i64 x2, .string (strL x3), ra, ba] 29 (0, 0)) := by rw [← hW, ← hW1]; exact heap_alloc2_old _ _ _
 have hblk2 : W.heap[w.heap.size + 1]? = some (.cells #[.int .i64 y0, .int .i64 y1, .int .i64 y2, .string (strL y3), rb, bb] 29 (0, 0)) := by rw [← hW, ← hW1]; exact heap_alloc2_new _ _ _
 have hc1 : ∀ W', Below W.heap.size W W' → ∀ (j : Nat) v, (#[Value.int .i64 x0, .int .i64 x1, .int .i64 x2, .string (strL x3), ra, ba] : Array Value)[j]? = some v → W'.cell? ⟨w.heap.size, j, none⟩ = some v := by
  intro W' hB j v hv
  rw [cell_of_row _ _ _ _ _ _ ((hB.block _ (Array.getElem?_eq_some_iff.1 hblk1).1).trans hblk1)]
  exact hv
 have hc2 : ∀ W', Below W.heap.size W W' → ∀ (j : Nat) v, (#[Value.int .i64 y0, .int .i64 y1, .int .i64 y2, .string (strL y3), rb, bb] : Array Value)[j]? = some v → W'.cell? ⟨w.heap.size + 1, j, none⟩ = some v := by
  intro W' hB j v hv
  rw [cell_of_row _ _ _ _ _ _ ((hB.block _ (Array.getElem?_eq_some_iff.1 hblk2).1).trans hblk2)]
  exact hv
 have hr1 := h1.below (Nat.le_refl _) hbW
 have hb1 := h2.below (Nat.le_refl _) hbW
 have hr2 := h3.below (Nat.le_refl _) hbW
 have hb2 := h4.below (Nat.le_refl _) hbW
 have htx := refTexts_calls ra rb x4 y4 W hr1 hr2
 have a0 := hc1 W (Below.refl _ _) 0 _ rfl
 have b0 := hc2 W (Below.refl _ _) 0 _ rfl
 have a1 := hc1 W (Below.refl _ _) 1 _ rfl
 have b1 := hc2 W (Below.refl _ _) 1 _ rfl
 have a2 := hc1 W (Below.refl _ _) 2 _ rfl
 have b2 := hc2 W (Below.refl _ _) 2 _ rfl
 have a3 := hc1 W (Below.refl _ _) 3 _ rfl
 have b3 := hc2 W (Below.refl _ _) 3 _ rfl
 have a4 := hc1 W (Below.refl _ _) 4 _ rfl
 have b4 := hc2 W (Below.refl _ _) 4 _ rfl
 have Hpi := Lib.hid hpi
 have Hc1 := Lib.hid hc1
 have Hc2 := Lib.hid hc2
 have Hr1 := Lib.hid hr1
 have Hb1 := Lib.hid hb1
 have Hb2 := Lib.hid hb2
 have Htx := Lib.hid htx
 clear hpi hc1 hc2 hr1 hb1 hr2 hb2 htx h1 h2 h3 h4 hblk1 hblk2 hp hs1 hbW1
 subst hW
 subst hW1
 by_cases e0 : x0 = y0
 case neg =>
  have q : (x0 == y0) = false := by rw [beq_eq_false_iff_ne]; exact e0
  have hpf : p = false := by cases p; rfl; exact absurd (Hpi.out.1 rfl).1 e0
  subst hpf
  clear e0
  go_enter Tryz.func79, Tryz.ntmps79
  go_wp2
  go_ret
  exact ⟨rfl, hbW⟩
 subst e0
 by_cases e1 : x1 = y1
 case neg =>
  have q : (x1 == y1) = false := by rw [beq_eq_false_iff_ne]; exact e1
  have hpf : p = false := by cases p; rfl; exact absurd (Hpi.out.1 rfl).2.1 e1
  subst hpf
  clear e1
  go_enter Tryz.func79, Tryz.ntmps79
  go_wp2
  go_ret
  exact ⟨rfl, hbW⟩
 subst e1
 by_cases e2 : x2 = y2
 case neg =>
  have q : (x2 == y2) = false := by rw [beq_eq_false_iff_ne]; exact e2
  have hpf : p = false := by cases p; rfl; exact absurd (Hpi.out.1 rfl).2.2.1 e2
  subst hpf
  clear e2
  go_enter Tryz.func79, Tryz.ntmps79
  go_wp2
  go_ret
  exact ⟨rfl, hbW⟩
 subst e2
 by_cases e3 : x3 = y3
 case neg =>
  have q : ((strL x3).toList == (strL y3).toList) = false := (Lib.bytes_beq_false_iff _ _).2 (fun e => e3 (strL_inj e))
  have hpf : p = false := by cases p; rfl; exact absurd (Hpi.out.1 rfl).2.2.2.1 e3
  subst hpf
  clear e3
  generalize strL x3 = s3 at *
  generalize strL y3 = t3 at *
  go_enter Tryz.func79, Tryz.ntmps79
  go_wp2
  go_ret
  exact ⟨rfl, hbW⟩
 subst e3
 by_cases e4 : x4 = y4
 case neg =>
  have hpf : p = false := by cases p; rfl; exact absurd (Hpi.out.1 rfl).2.2.2.2.1 e4
  subst hpf
  rw [decide_eq_false e4] at Htx
  clear e4
  generalize strL x3 = s3 at *
  go_enter Tryz.func79, Tryz.ntmps79
  go_wp2_with fail
  refine (Htx.out).mono ?_; rintro e w2 ⟨rfl, hb2⟩
  have hbw2 := hbW.trans (hb2.mono hbW.size)
  go_wp2
  go_ret
  exact ⟨rfl, hbw2⟩
 rw [decide_eq_true e4] at Htx
 have hpx : p = decide (x5 = y5) := by
  rw [Bool.eq_iff_iff, Hpi.out, decide_eq_true_iff]
  exact ⟨fun h => h.2.2.2.2.2, fun h => ⟨rfl, rfl, rfl, rfl, e4, h⟩⟩
 clear Hpi
 subst hpx
 clear e4
 generalize strL x3 = s3 at *
 by_cases e5 : x5 = y5
 ·subst e5
  rw [decide_eq_true rfl]
  go_enter Tryz.func79, Tryz.ntmps79
  go_wp2_with fail
  refine (Htx.out).mono ?_; rintro e w2 ⟨rfl, hb2⟩
  have hbw2 := hbW.trans (hb2.mono hbW.size)
  have a5 := Hc1.out w2 hb2 5 _ rfl
  have b5 := Hc2.out w2 hb2 5 _ rfl
  have c1 := run_strL (Hb1.out.below (Nat.le_refl _) hb2)
  have c2 := run_strL (Hb2.out.below (Nat.le_refl _) hb2)
  generalize strL x5 = s5 at c1 c2
  go_wp2
  go_ret
  exact ⟨rfl, hbw2⟩
 ·have q : ((strL x5).toList == (strL y5).toList) = false := (Lib.bytes_beq_false_iff _ _).2 (fun e => e5 (strL_inj e))
  rw [decide_eq_false e5]
  clear e5
  go_enter Tryz.func79, Tryz.ntmps79
  go_wp2_with fail
  refine (Htx.out).mono ?_; rintro e w2 ⟨rfl, hb2⟩
  have hbw2 := hbW.trans (hb2.mono hbW.size)
  have a5 := Hc1.out w2 hb2 5 _ rfl
  have b5 := Hc2.out w2 hb2 5 _ rfl
  have c1 := run_strL (Hb1.out.below (Nat.le_refl _) hb2)
  have c2 := run_strL (Hb2.out.below (Nat.le_refl _) hb2)
  generalize strL x5 = s5 at q c1
  generalize strL y5 = t5 at q c2
  go_wp2
  go_ret
  exact ⟨rfl, hbw2⟩
end Go.Proofs.YtffnbkmigapmjaaGreatDoor
namespace Go.Proofs.YtffnbkmigapmjaaGreatDoor
open Go.RowKit
end Go.Proofs.YtffnbkmigapmjaaGreatDoor
set_option maxRecDepth 100000
namespace Go.Proofs.YtffnbkmigapmjaaGreatDoor
open Go.ChangeShapes Go.WideShapes Go.Deep Go.RowKit
theorem maxOk_of {W : World} (h : W.ShapedOpen Tryz.prog) : MaxOk W :=
 Go.Proofs.cell_of_shapedOpen_int (zero := #[.int .i64 0]) (t := 3) h (of_decide_eq_true (by kernel_rfl)) (by kernel_rfl) rfl (by kernel_rfl) (by kernel_rfl) Tryz.underlying3
section
variable {H : Type} {enc : TypeId × Value → H} {W : World} {base : Nat} {held : Bool} {n : Nat} {c : Value} {y : DataW H × List MemPlace}
theorem rdB_trod (h : DataW.trod enc Tryz.prog W base (fun _ => true) held n 22 [c] = some y) : ∃ bs, RdB W c bs ∧ NilOk c := by
 rcases open_ints Tryz.underlying22 Tryz.underlying5 (by kernel_rfl) h with ⟨hcs, _⟩ | ⟨x, l, cp, zs, hcs, _, hl, hm, hz, _, hcell, hwz⟩
 ·cases hcs
  exact ⟨[], .inl ⟨_, _, rfl, by decide, rfl⟩, fun l c e => by cases e; exact ⟨rfl, rfl⟩⟩
 ·cases hcs
  obtain ⟨bs, hb, _⟩ := rdB_of (w := W) (a := some x) (len := l) (cap := cp) (.inr ⟨_, rfl, hl, hm, by simpa using hz, hcell, hwz⟩)
  exact ⟨bs, hb, fun l c e => by cases e⟩
end
theorem fieldsMail : ∃ f0 f1 f2 f3 f4 f5 : Field, Tryz.prog.underlying 29 = some (.struct #[f0, f1, f2, f3, f4, f5]) ∧ (f0.type = 3 ∧ f0.offset = 0) ∧ (f1.type = 3 ∧ f1.offset = 1) ∧ (f2.type = 3 ∧ f2.offset = 2) ∧ (f3.type = 9 ∧ f3.offset = 3) ∧ (f4.type = 27 ∧ f4.offset = 4) ∧ (f5.type = 22 ∧ f5.offset = 5) :=
 ⟨_, _, _, _, _, _, Tryz.underlying29, ⟨rfl, rfl⟩, ⟨rfl, rfl⟩, ⟨rfl, rfl⟩, ⟨rfl, rfl⟩, ⟨rfl, rfl⟩, rfl, rfl⟩
section
variable {H : Type} {enc : TypeId × Value → H}
theorem witness_laid {C : Checked} {os : Os} {f : FuncId} {fn : Func} {s : OpenSpec} {conds : List PathCond} {apart : Bool} {laid : List (String × DataW Unit)} (w0 : World) (args : Array Value) (hos : w0.os = os)
 (hsh : (w0.forCall (fun _ _ => 0) ⟨#[], args, []⟩).Shaped C.prog)
 (hok : Input.okWideB C.prog (w0.forCall (fun _ _ => 0) ⟨#[], args, []⟩) f ⟨#[], args, []⟩ = true)
 (hrow : s.preRow enc C.prog fn conds apart laid (w0.forCall (fun _ _ => 0) ⟨#[], args, []⟩).memory args) :
 ∃ (w : World) (tape : Tape) (i : Input), w.os = os ∧ (w.forCall tape i).Shaped C.prog ∧ i.vars = [] ∧ Input.okWide C.prog (w.forCall tape i) .any w.heap.size f i ∧
  s.preRow enc C.prog fn conds apart laid (w.forCall tape i).memory i.args ∧ ({} : Assume).holds C.prog (lone (Frame.enter C.prog f i.args .normal) [] (w.forCall tape i)) :=
 ⟨w0, fun _ _ => 0, ⟨#[], args, []⟩, hos, hsh, (Input.okWide_of_okWideB (base := 0) hok).1, (Input.okWide_of_okWideB hok).2, hrow, by
  simp only [Assume.holds]
  exact ⟨by simp, by simp, (fun h => by cases h), by simp, by simp⟩⟩
end
end Go.Proofs.YtffnbkmigapmjaaGreatDoor
set_option maxRecDepth 100000
namespace Go.Proofs.YtffnbkmigapmjaaGreatDoor
open Go.ChangeShapes Go.WideShapes Go.Deep Go.RowKit
theorem addr_plain {w : World} {x : Addr} {n : Nat} {v : Value} (h : w.cell? (x.add 0) = some v) : ∃ b off, x = ⟨b, off, none⟩ := by
 obtain ⟨b, off, s⟩ := x
 rw [Addr.add, if_pos rfl] at h
 cases s with
 | none => exact ⟨b, off, rfl⟩
 | some s => unfold World.cell? at h; split at h <;> simp at h
theorem add_plain (b off i : Nat) : Addr.add ⟨b, off, none⟩ i = ⟨b, off + i, none⟩ := by
 unfold Addr.add
 split
 ·next h => subst h; rfl
 ·rfl
section
variable {H : Type} {enc : TypeId × Value → H} {W : World} {r : Reach} {b0 base : Nat} {spare : Nat → Bool} {held : Bool} {v : Value} {d : DataW H} {p : List MemPlace}
theorem fieldsMark : ∃ f0 f1 f2 : Field, Tryz.prog.underlying 53 = some (.struct #[f0, f1, f2]) ∧ (f0.type = 3 ∧ f0.offset = 0) ∧ (f1.type = 3 ∧ f1.offset = 1) ∧ (f2.type = 3 ∧ f2.offset = 2) :=
 ⟨_, _, _, Tryz.underlying53, ⟨rfl, rfl⟩, ⟨rfl, rfl⟩, rfl, rfl⟩
theorem mark_cells {n : Nat} {cs : List Value} {x : DataW H × List MemPlace} (h : DataW.trod enc Tryz.prog W base spare held n 53 cs = some x) :
 ∃ k : MarkD, cs = k.cells := by
 obtain ⟨f0, f1, f2, hu, ⟨t0, o0⟩, ⟨t1, o1⟩, t2, o2⟩ := fieldsMark
 obtain ⟨xs, m, _, _, hl, hxl, hat⟩ := DataW.trod_struct hu h
 have hc : Tryz.prog.cellsOf 53 = 3 := by kernel_rfl
 have hi : Tryz.prog.cellsOf 3 = 1 := by kernel_rfl
 rw [hc] at hl
 match cs, hl with
 | [c0, c1, c2], _ =>
  match xs, hxl with
  | [y0, y1, y2], _ =>
   have g0 := hat 0 f0 rfl
   have g1 := hat 1 f1 rfl
   have g2 := hat 2 f2 rfl
   rw [t0, o0, hi] at g0
   rw [t1, o1, hi] at g1
   rw [t2, o2, hi] at g2
   obtain ⟨n0, e0, _⟩ := DataW.trod_int (P := Tryz.prog) Tryz.underlying3 g0
   obtain ⟨n1, e1, _⟩ := DataW.trod_int (P := Tryz.prog) Tryz.underlying3 g1
   obtain ⟨n2, e2, _⟩ := DataW.trod_int (P := Tryz.prog) Tryz.underlying3 g2
   simp only [List.drop_succ_cons, List.drop_zero, List.take_succ_cons, List.take_zero, List.cons.injEq, and_true] at e0 e1 e2
   subst e0 e1 e2
   exact ⟨⟨n0, n1, n2⟩, rfl⟩
end
end Go.Proofs.YtffnbkmigapmjaaGreatDoor
set_option maxRecDepth 100000
namespace Go.Proofs.YtffnbkmigapmjaaGreatDoor
open Go.ChangeShapes Go.WideShapes Go.Deep Go.RowKit
theorem bulk_in {H : Type} {x : DataW H} : ∀ {l : List (DataW H)}, x ∈ l → Rows.uptoBulk x ≤ Rows.uptoBulkAll l := by
 intro l
 induction l with
 | nil => intro h; cases h
 | cons a r ih =>
  intro h
  rw [Rows.uptoBulkAll]
  rcases List.mem_cons.1 h with rfl | h
  ·omega
  ·have := ih h; omega
theorem bulk_part {H : Type} {x : DataW H} {l : List (DataW H)} (h : x ∈ l) : Rows.uptoBulk x ≤ Rows.uptoBulk (.agg l) := by
 rw [Rows.uptoBulk]; have := bulk_in h; omega
theorem bulk_str {H : Type} (l : List UInt8) : Rows.uptoBulk (H := H) (.lit (.string l)) = l.length + 1 := by
 simp [Rows.uptoBulk]
theorem bulk_all {H : Type} {l : List (DataW H)} {x : DataW H} (h : Rows.uptoSmall H l = true) (hx : x ∈ l) : Rows.uptoBulk x ≤ 1048576 := by
 have h2 : Rows.uptoBulkAll l ≤ 1048576 := by simpa [Rows.uptoSmall] using h
 have := bulk_in hx
 omega
theorem bulk_strs {H : Type} {y : DataW H × List MemPlace} {ss : List ByteArray} {l : Nat} {q' : List (DataW H)} {pl : List MemPlace} (h : y = (.slice (strs (ss.take l)) q', pl)) : ∀ s ∈ (ss.take l).map (fun s => s.data.toList), s.length ≤ Rows.uptoBulk y.1 := by
 subst h
 intro s hs
 obtain ⟨b, hb, rfl⟩ := List.mem_map.1 hs
 have hm : (DataW.lit (.string b.data.toList) : DataW H) ∈ strs (ss.take l) := by unfold strs; exact List.mem_map.2 ⟨b, hb, rfl⟩
 have := bulk_in hm
 rw [bulk_str] at this
 show _ ≤ Rows.uptoBulk (.slice _ _)
 rw [Rows.uptoBulk]
 omega
section
variable {H : Type} {enc : TypeId × Value → H} {W : World} {base : Nat} {held : Bool} {n : Nat} {c : Value} {y : DataW H × List MemPlace}
theorem rdS_trodU (h : DataW.trod enc Tryz.prog W base (fun _ => true) held n 27 [c] = some y) : ∃ ls, RdS W c ls ∧ NilOk c ∧ ∀ l ∈ ls, l.length ≤ Rows.uptoBulk y.1 := by
 rcases open_strings Tryz.underlying27 Tryz.underlying9 (by kernel_rfl) h with ⟨hcs, _⟩ | ⟨x, l, cp, ss, hcs, _, hl, hm, hz, hyy, hcell, hwz⟩
 ·cases hcs
  exact ⟨[], .inl ⟨_, _, rfl, by decide, rfl⟩, (fun l c e => by cases e; exact ⟨rfl, rfl⟩), fun l hl => by cases hl⟩
 ·cases hcs
  rw [if_pos rfl] at hz
  by_cases h0 : l = 0
  ·subst h0
   exact ⟨[], .inl ⟨_, _, rfl, hm, rfl⟩, (fun l c e => by cases e), fun l hl => by cases hl⟩
  ·obtain ⟨b, off, s⟩ := x
   have hs : s = none := by
    cases s with
    | none => rfl
    | some q =>
     have := hcell 0 (by omega)
     rw [Addr.add, if_pos rfl] at this
     unfold World.cell? at this
     split at this <;> simp at this
   subst hs
   refine ⟨(ss.take l).map fun s => s.data.toList, .inr ⟨b, off, cp, ?_, ?_, ?_, hm, ?_, ?_⟩, (fun l c e => by cases e), bulk_strs hyy⟩
   ·rw [List.length_map, List.length_take, Nat.min_eq_left (by omega)]
   ·rw [← List.length_pos_iff, List.length_map, List.length_take]; omega
   ·rw [List.length_map, List.length_take]; omega
   ·have := hcell 0 (by omega)
    rw [add_at] at this
    exact World.block_lt_of_cell? W ⟨b, off + 0, none⟩ this
   ·intro i q hq j u hu
    rw [List.getElem?_map] at hq
    obtain ⟨s, hs, rfl⟩ := Option.map_eq_some_iff.1 hq
    rw [List.getElem?_take] at hs
    split at hs
    ·have hi : i < ss.length := (List.getElem?_eq_some_iff.1 hs).1
     have hc := hcell i hi
     rw [add_at, List.getD_eq_getElem?_getD, hs] at hc
     cases j with
     | zero =>
      rw [s1] at hu
      cases hu
      rw [Nat.mul_one, Nat.add_zero]
      rw [hc]; rfl
     | succ j => rw [s1] at hu; cases hu
    ·cases hs
end
end Go.Proofs.YtffnbkmigapmjaaGreatDoor
set_option maxRecDepth 100000
namespace Go.Proofs.YtffnbkmigapmjaaGreatDoor
open Go.ChangeShapes Go.WideShapes Go.Deep Go.RowKit
end Go.Proofs.YtffnbkmigapmjaaGreatDoor
