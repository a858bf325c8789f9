/-
  The walk of env.Good.
  The walks of pillarboxref01.Texts and pillarboxlaw10.light.
  The walks of slices.Equal of texts, pillarboxref10.Same and env.Same.
  The walk of pillarboxlaw10.light.
  A mail that comes in by value: its parts, and what its slices hold; the world that a call begins in; a witness with tables laid.
  Arguments of a law as the walks want them: byte slices, slices of marks.
  What the reading of a slice argument tells besides: nil is nil, and how long it may be.
  The walks of word.Writer.Bytes and word.Reader.Bytes.
  The walks of env.sum and pillarboxref01.Bytes.
  A mail's record, as plain bytes; a Writer step by step.
  The walk of env.Encode.
  The plain side of the laws on marks' bytes: what is written is read again, what is cut is read up to the cut.
-/
import Derived.Test.YtjddicoigbidlaaGreatDoorQ1
import Derived.Test.YtjddicoigbidlaaGreatDoorQ2
import Derived.Test.YtjddicoigbidlaaGreatDoorQ3
import Derived.Deep.QuietTactic
import Derived.BigQuiet
import Derived.OpenShut
import Derived.Deep.Slices
import Derived.ChangeOld
import Derived.SliceStrings
import Derived.Lay
import Derived.MakeChecks
import Derived.Stop.Joined
import Derived.Shelf.Vars
import Derived.SizedLaws
import Derived.Maps.AppendAt
set_option linter.unusedSimpArgs false
set_option linter.unusedVariables false
namespace Go.Proofs.YtjddicoigbidlaaGreatDoor
open Go.RowKit
/-- A mail, as plain data. -/
structure MailD where
  id : Int
  parent : Int
  born : Int
  frm : List UInt8
  rcpts : List (List UInt8)
  body : List UInt8
abbrev mailVal (m : MailD) (vr vb : Value) : Value := .agg #[.int .i64 m.id, .int .i64 m.parent, .int .i64 m.born, .string (strL m.frm), vr, vb]
def MailD.good (m : MailD) : Bool :=
  decide (1 ≤ m.id ∧ m.id ≤ 999999999) && (decide (0 ≤ m.parent ∧ m.parent ≤ m.id - 1) && (decide (0 ≤ m.born ∧ m.born ≤ 1099511627776) && (decide (1 ≤ (m.rcpts.length : Int) ∧ (m.rcpts.length : Int) ≤ 8) && (decide (m.body.length ≤ 8192) && (bodyB m.body && ((decide (m.frm.length = 0) || boxB m.frm) && m.rcpts.all boxB))))))
theorem mailInfo : Tryz.prog.cellsOf 25 = 6 := by kernel_rfl
set_option maxRecDepth 100000 in
set_option maxHeartbeats 8000000 in
theorem envGood_calls (m : MailD) (vr vb : Value) (w : World) (hr : RdS w vr m.rcpts) (hb : RdB w vb m.body) (hsr : ∀ l ∈ m.rcpts, l.length < 4294967281) (hsf : m.frm.length < 4294967281) (hmax : MaxOk w) :
    Calls Tryz.prog 17 #[mailVal m vr vb] w fun e w' => e = .returned (.bool m.good) ∧ Below w.heap.size w w' := by
  obtain ⟨ar, capr, rfl, hlr, hcr⟩ := hr.form
  obtain ⟨ab, capb, rfl, hlb, hcb⟩ := hb.form
  obtain ⟨id, parent, born, frm, rcpts, body⟩ := m
  simp only at hr hb hsr hsf hlr hlb
  unfold MailD.good mailVal
  simp only
  obtain ⟨W, hW⟩ : ∃ W, w.alloc (.cells #[.int .i64 id, .int .i64 parent, .int .i64 born, .string (strL frm), .slice ar rcpts.length capr, .slice ab body.length capb] 25) = W := ⟨_, rfl⟩
  have hbW : Below w.heap.size w W := by rw [← hW]; exact (Below.refl _ _).alloc (Nat.le_refl _) _
  have hblk : W.heap[w.heap.size]? = some (.cells #[.int .i64 id, .int .i64 parent, .int .i64 born, .string (strL frm), .slice ar rcpts.length capr, .slice ab body.length capb] 25 (0, 0)) := by rw [← hW]; exact heap_alloc_new w _
  have hw1 := fun W => envWithin_calls id 1 999999999 W
  have hw2 := fun W => envWithin_calls parent 0 (id - 1) W
  have hw3 := fun W => envWithin_calls born 0 1099511627776 W
  have hw4 := fun W => envWithin_calls (rcpts.length : Int) 1 8 W
  have hdl := fun (h : body.length ≤ 8192) => dotsLines_calls (.slice ab body.length capb) body W (hb.below (Nat.le_refl _) hbW) (by omega) (hmax.below hbW)
  have hbx := fun W hM => envBox_calls (strL frm) W (by rw [strL_size]; exact hsf) hM
  have hcf := fun W (hR : RdS W (.slice ar rcpts.length capr) rcpts) hM => containsBad_calls (.slice ar rcpts.length capr) rcpts W hR hsr hM
  rw [strL_data] at hbx
  have hcell : ∀ W', Below W.heap.size W W' → ∀ (j : Nat) v, (#[Value.int .i64 id, .int .i64 parent, .int .i64 born, .string (strL frm), .slice ar rcpts.length capr, .slice ab body.length capb] : Array Value)[j]? = some v → W'.cell? ⟨w.heap.size, j, none⟩ = some v := by
    intro W' hB j v hv
    rw [cell_of_row _ _ _ _ _ _ ((hB.block _ (Array.getElem?_eq_some_iff.1 hblk).1).trans hblk)]
    exact hv
  have hRW : ∀ W', Below W.heap.size W W' → RdS W' (.slice ar rcpts.length capr) rcpts := fun W' hB => (hr.below (Nat.le_refl _) hbW).below (Nat.le_refl _) hB
  have hMW : ∀ W', Below W.heap.size W W' → MaxOk W' := fun W' hB => (hmax.below hbW).below hB
  have c0 := hcell W (Below.refl _ _) 0 _ rfl
  have c1 := hcell W (Below.refl _ _) 1 _ rfl
  have c2 := hcell W (Below.refl _ _) 2 _ rfl
  have c4 := hcell W (Below.refl _ _) 4 _ rfl
  have c5 := hcell W (Below.refl _ _) 5 _ rfl
  have hsf0 := strL_size frm
  generalize bodyB body = p6 at hdl
  generalize boxB frm = p8 at hbx
  generalize rcpts.all boxB = p9 at hcf
  have Hw1 := Lib.hid hw1
  have Hw2 := Lib.hid hw2
  have Hw3 := Lib.hid hw3
  have Hw4 := Lib.hid hw4
  have Hdl := Lib.hid hdl
  have Hbx := Lib.hid hbx
  have Hcf := Lib.hid hcf
  have Hcell := Lib.hid hcell
  have HRW := Lib.hid hRW
  have HMW := Lib.hid hMW
  have hfl : frm.length = 0 ↔ (strL frm).size = 0 := by rw [hsf0]
  have Hfl := Lib.hid hfl
  have HW := Lib.hid hW
  clear hw1 hw2 hw3 hw4 hdl hbx hcf hcell hRW hMW hr hb hsr hsf hmax hblk hsf0 hfl
  have hlri : (rcpts.length : Int) ≤ 9223372036854775807 := by omega
  have hlbi : (body.length : Int) ≤ 9223372036854775807 := by omega
  by_cases h1 : ¬ (1 ≤ id ∧ id ≤ 999999999)
  · have hd : decide (1 ≤ id ∧ id ≤ 999999999) = false := decide_eq_false h1
    rw [hd] at Hw1 ⊢
    clear hd h1
    go_enter Tryz.func17, Tryz.ntmps17
    go_wp2_with fail
    refine (Hw1.out _).mono ?_; rintro e _ ⟨rfl, rfl⟩
    go_wp2
    go_ret
    exact ⟨rfl, hbW⟩
  replace h1 := Decidable.not_not.1 h1
  have hd1 : decide (1 ≤ id ∧ id ≤ 999999999) = true := decide_eq_true h1
  rw [hd1] at Hw1 ⊢
  clear hd1
  obtain ⟨h1a, h1b⟩ := h1
  by_cases h2 : ¬ (0 ≤ parent ∧ parent ≤ id - 1)
  · have hd : decide (0 ≤ parent ∧ parent ≤ id - 1) = false := decide_eq_false h2
    rw [hd] at Hw2 ⊢
    clear hd h2
    go_enter Tryz.func17, Tryz.ntmps17
    go_wp2_with fail
    refine (Hw1.out _).mono ?_; rintro e _ ⟨rfl, rfl⟩
    go_wp2_with fail
    refine (Hw2.out _).mono ?_; rintro e _ ⟨rfl, rfl⟩
    go_wp2
    go_ret
    exact ⟨rfl, hbW⟩
  replace h2 := Decidable.not_not.1 h2
  have hd2 : decide (0 ≤ parent ∧ parent ≤ id - 1) = true := decide_eq_true h2
  rw [hd2] at Hw2 ⊢
  clear hd2
  by_cases h3 : ¬ (0 ≤ born ∧ born ≤ 1099511627776)
  · have hd : decide (0 ≤ born ∧ born ≤ 1099511627776) = false := decide_eq_false h3
    rw [hd] at Hw3 ⊢
    clear hd h3
    go_enter Tryz.func17, Tryz.ntmps17
    go_wp2_with fail
    refine (Hw1.out _).mono ?_; rintro e _ ⟨rfl, rfl⟩
    go_wp2_with fail
    refine (Hw2.out _).mono ?_; rintro e _ ⟨rfl, rfl⟩
    go_wp2_with fail
    refine (Hw3.out _).mono ?_; rintro e _ ⟨rfl, rfl⟩
    go_wp2
    go_ret
    exact ⟨rfl, hbW⟩
  replace h3 := Decidable.not_not.1 h3
  have hd3 : decide (0 ≤ born ∧ born ≤ 1099511627776) = true := decide_eq_true h3
  rw [hd3] at Hw3 ⊢
  clear hd3
  by_cases h4 : ¬ (1 ≤ (rcpts.length : Int) ∧ (rcpts.length : Int) ≤ 8)
  · have hd : decide (1 ≤ (rcpts.length : Int) ∧ (rcpts.length : Int) ≤ 8) = false := decide_eq_false h4
    rw [hd] at Hw4 ⊢
    clear hd h4
    go_enter Tryz.func17, Tryz.ntmps17
    go_wp2_with fail
    refine (Hw1.out _).mono ?_; rintro e _ ⟨rfl, rfl⟩
    go_wp2_with fail
    refine (Hw2.out _).mono ?_; rintro e _ ⟨rfl, rfl⟩
    go_wp2_with fail
    refine (Hw3.out _).mono ?_; rintro e _ ⟨rfl, rfl⟩
    go_wp2_with fail
    refine (Hw4.out _).mono ?_; rintro e _ ⟨rfl, rfl⟩
    go_wp2
    go_ret
    exact ⟨rfl, hbW⟩
  replace h4 := Decidable.not_not.1 h4
  have hd4 : decide (1 ≤ (rcpts.length : Int) ∧ (rcpts.length : Int) ≤ 8) = true := decide_eq_true h4
  rw [hd4] at Hw4 ⊢
  clear hd4
  by_cases h5 : ¬ ((body.length : Int) ≤ 8192)
  · rw [decide_eq_false (by omega : ¬ body.length ≤ 8192)]
    clear h2 h3 h4
    go_enter Tryz.func17, Tryz.ntmps17
    go_wp2_with fail
    refine (Hw1.out _).mono ?_; rintro e _ ⟨rfl, rfl⟩
    go_wp2_with fail
    refine (Hw2.out _).mono ?_; rintro e _ ⟨rfl, rfl⟩
    go_wp2_with fail
    refine (Hw3.out _).mono ?_; rintro e _ ⟨rfl, rfl⟩
    go_wp2_with fail
    refine (Hw4.out _).mono ?_; rintro e _ ⟨rfl, rfl⟩
    go_wp2
    go_ret
    exact ⟨rfl, hbW⟩
  replace h5 := Decidable.not_not.1 h5
  rw [decide_eq_true (by omega : body.length ≤ 8192)]
  have Hd2 := Lib.hid (Hdl.out (by omega))
  clear h2 h3 h4
  cases p6
  · go_enter Tryz.func17, Tryz.ntmps17
    go_wp2_with fail
    refine (Hw1.out _).mono ?_; rintro e _ ⟨rfl, rfl⟩
    go_wp2_with fail
    refine (Hw2.out _).mono ?_; rintro e _ ⟨rfl, rfl⟩
    go_wp2_with fail
    refine (Hw3.out _).mono ?_; rintro e _ ⟨rfl, rfl⟩
    go_wp2_with fail
    refine (Hw4.out _).mono ?_; rintro e _ ⟨rfl, rfl⟩
    go_wp2_with fail
    refine (Hd2.out).mono ?_; rintro e w6 ⟨⟨x, rfl⟩, hb6⟩
    have hb6' := hbW.trans (hb6.mono hbW.size)
    have c3' := Hcell.out w6 hb6 3 _ rfl
    have c4' := Hcell.out w6 hb6 4 _ rfl
    go_wp2
    go_ret
    exact ⟨rfl, hb6'⟩
  by_cases h7 : frm.length = 0
  · have hz := empty_of_size (Hfl.out.1 h7)
    rw [decide_eq_true h7]
    have hcl : ∀ W', Below W.heap.size W W' → W'.cell? ⟨w.heap.size, 3, none⟩ = some (.string ⟨#[]⟩) := fun W' hB => by rw [← hz]; exact Hcell.out W' hB 3 _ rfl
    have Hcl := Lib.hid hcl
    clear hcl h7 hz
    cases p9
    · go_enter Tryz.func17, Tryz.ntmps17
      go_wp2_with fail
      refine (Hw1.out _).mono ?_; rintro e _ ⟨rfl, rfl⟩
      go_wp2_with fail
      refine (Hw2.out _).mono ?_; rintro e _ ⟨rfl, rfl⟩
      go_wp2_with fail
      refine (Hw3.out _).mono ?_; rintro e _ ⟨rfl, rfl⟩
      go_wp2_with fail
      refine (Hw4.out _).mono ?_; rintro e _ ⟨rfl, rfl⟩
      go_wp2_with fail
      refine (Hd2.out).mono ?_; rintro e w6 ⟨⟨x, rfl⟩, hb6⟩
      have hb6' := hbW.trans (hb6.mono hbW.size)
      have c3' := Hcl.out w6 hb6
      have c4' := Hcell.out w6 hb6 4 _ rfl
      go_wp2_with fail
      refine (Hcf.out _ (HRW.out w6 hb6) (HMW.out w6 hb6)).mono ?_; rintro e w9 ⟨rfl, hb9⟩
      go_wp2
      go_ret
      exact ⟨rfl, hb6'.trans (hb9.mono hb6'.size)⟩
    · go_enter Tryz.func17, Tryz.ntmps17
      go_wp2_with fail
      refine (Hw1.out _).mono ?_; rintro e _ ⟨rfl, rfl⟩
      go_wp2_with fail
      refine (Hw2.out _).mono ?_; rintro e _ ⟨rfl, rfl⟩
      go_wp2_with fail
      refine (Hw3.out _).mono ?_; rintro e _ ⟨rfl, rfl⟩
      go_wp2_with fail
      refine (Hw4.out _).mono ?_; rintro e _ ⟨rfl, rfl⟩
      go_wp2_with fail
      refine (Hd2.out).mono ?_; rintro e w6 ⟨⟨x, rfl⟩, hb6⟩
      have hb6' := hbW.trans (hb6.mono hbW.size)
      have c3' := Hcl.out w6 hb6
      have c4' := Hcell.out w6 hb6 4 _ rfl
      go_wp2_with fail
      refine (Hcf.out _ (HRW.out w6 hb6) (HMW.out w6 hb6)).mono ?_; rintro e w9 ⟨rfl, hb9⟩
      go_wp2
      go_ret
      exact ⟨rfl, hb6'.trans (hb9.mono hb6'.size)⟩
  · have hne : (strL frm).size ≠ 0 := fun h => h7 (Hfl.out.2 h)
    have hb1 := empty_ne hne
    have hb2 : (strL frm).toList.isEmpty = false := by simpa using hb1
    rw [decide_eq_false h7]
    clear h7 hne
    cases p8
    · go_enter Tryz.func17, Tryz.ntmps17
      go_wp2_with fail
      refine (Hw1.out _).mono ?_; rintro e _ ⟨rfl, rfl⟩
      go_wp2_with fail
      refine (Hw2.out _).mono ?_; rintro e _ ⟨rfl, rfl⟩
      go_wp2_with fail
      refine (Hw3.out _).mono ?_; rintro e _ ⟨rfl, rfl⟩
      go_wp2_with fail
      refine (Hw4.out _).mono ?_; rintro e _ ⟨rfl, rfl⟩
      go_wp2_with fail
      refine (Hd2.out).mono ?_; rintro e w6 ⟨⟨x, rfl⟩, hb6⟩
      have hb6' := hbW.trans (hb6.mono hbW.size)
      have c3' := Hcell.out w6 hb6 3 _ rfl
      have c4' := Hcell.out w6 hb6 4 _ rfl
      go_wp2_with fail
      refine (Hbx.out _ (HMW.out w6 hb6)).mono ?_; rintro e w8 ⟨rfl, hb8⟩
      have hb68 := hb6.trans (hb8.mono hb6.size)
      have hb8' := hbW.trans (hb68.mono hbW.size)
      have c4'' := Hcell.out w8 hb68 4 _ rfl
      go_wp2
      go_ret
      exact ⟨rfl, hb8'⟩
    · cases p9
      · go_enter Tryz.func17, Tryz.ntmps17
        go_wp2_with fail
        refine (Hw1.out _).mono ?_; rintro e _ ⟨rfl, rfl⟩
        go_wp2_with fail
        refine (Hw2.out _).mono ?_; rintro e _ ⟨rfl, rfl⟩
        go_wp2_with fail
        refine (Hw3.out _).mono ?_; rintro e _ ⟨rfl, rfl⟩
        go_wp2_with fail
        refine (Hw4.out _).mono ?_; rintro e _ ⟨rfl, rfl⟩
        go_wp2_with fail
        refine (Hd2.out).mono ?_; rintro e w6 ⟨⟨x, rfl⟩, hb6⟩
        have hb6' := hbW.trans (hb6.mono hbW.size)
        have c3' := Hcell.out w6 hb6 3 _ rfl
        have c4' := Hcell.out w6 hb6 4 _ rfl
        go_wp2_with fail
        refine (Hbx.out _ (HMW.out w6 hb6)).mono ?_; rintro e w8 ⟨rfl, hb8⟩
        have hb68 := hb6.trans (hb8.mono hb6.size)
        have hb8' := hbW.trans (hb68.mono hbW.size)
        have c4'' := Hcell.out w8 hb68 4 _ rfl
        go_wp2_with fail
        refine (Hcf.out _ (HRW.out w8 hb68) (HMW.out w8 hb68)).mono ?_; rintro e w9 ⟨rfl, hb9⟩
        go_wp2
        go_ret
        exact ⟨rfl, hb8'.trans (hb9.mono hb8'.size)⟩
      · go_enter Tryz.func17, Tryz.ntmps17
        go_wp2_with fail
        refine (Hw1.out _).mono ?_; rintro e _ ⟨rfl, rfl⟩
        go_wp2_with fail
        refine (Hw2.out _).mono ?_; rintro e _ ⟨rfl, rfl⟩
        go_wp2_with fail
        refine (Hw3.out _).mono ?_; rintro e _ ⟨rfl, rfl⟩
        go_wp2_with fail
        refine (Hw4.out _).mono ?_; rintro e _ ⟨rfl, rfl⟩
        go_wp2_with fail
        refine (Hd2.out).mono ?_; rintro e w6 ⟨⟨x, rfl⟩, hb6⟩
        have hb6' := hbW.trans (hb6.mono hbW.size)
        have c3' := Hcell.out w6 hb6 3 _ rfl
        have c4' := Hcell.out w6 hb6 4 _ rfl
        go_wp2_with fail
        refine (Hbx.out _ (HMW.out w6 hb6)).mono ?_; rintro e w8 ⟨rfl, hb8⟩
        have hb68 := hb6.trans (hb8.mono hb6.size)
        have hb8' := hbW.trans (hb68.mono hbW.size)
        have c4'' := Hcell.out w8 hb68 4 _ rfl
        go_wp2_with fail
        refine (Hcf.out _ (HRW.out w8 hb68) (HMW.out w8 hb68)).mono ?_; rintro e w9 ⟨rfl, hb9⟩
        go_wp2
        go_ret
        exact ⟨rfl, hb8'.trans (hb9.mono hb8'.size)⟩
end Go.Proofs.YtjddicoigbidlaaGreatDoor

set_option linter.unusedSimpArgs false
set_option linter.unusedVariables false
namespace Go.Proofs.YtjddicoigbidlaaGreatDoor
open Go.RowKit
set_option maxRecDepth 100000 in
set_option maxHeartbeats 4000000 in
theorem refTexts_calls (v1 v2 : Value) (xs ys : List (List UInt8)) (w : World) (h1 : RdS w v1 xs) (h2 : RdS w v2 ys) :
    Calls Tryz.prog 58 #[v1, v2] w fun e w' => e = .returned (.bool (decide (xs = ys))) ∧ Below w.heap.size w w' := by
  obtain ⟨a1, cap1, rfl, hl1, hc1⟩ := h1.form
  obtain ⟨a2, cap2, rfl, hl2, hc2⟩ := h2.form
  by_cases hlen : (xs.length : Int) = (ys.length : Int)
  · have hlen' : xs.length = ys.length := by omega
    rw [← hlen'] at h2 hl2 ⊢
    have H1 := Lib.hid h1
    have H2 := Lib.hid h2
    have Hlen := Lib.hid hlen'
    have hni : (xs.length : Int) ≤ 9223372036854775807 := by omega
    clear hlen hlen' h1 h2
    go_enter Tryz.func58, Tryz.ntmps58
    go_wp2
    go_loopw [5] (fun i wr => ∃ j : Nat, j ≤ xs.length ∧ i = .int .i64 j ∧ xs.take j = ys.take j ∧ Below w.heap.size w wr) (fun i _ => xs.length - (intOf i).toNat)
    case atStart => exact ⟨0, Nat.zero_le _, rfl, rfl, Below.refl _ _⟩
    case round =>
      obtain ⟨j, hj, rfl, htk, hbw⟩ := hrel
      by_cases hlt : j < xs.length
      · obtain ⟨x, hx⟩ : ∃ x, xs[j]? = some x := ⟨_, List.getElem?_eq_getElem hlt⟩
        obtain ⟨y, hy⟩ : ∃ y, ys[j]? = some y := ⟨_, List.getElem?_eq_getElem (by rw [← Hlen.out]; exact hlt)⟩
        obtain ⟨b1, o1, k1, e1, _, p1⟩ := RdS.at (H1.out.below (Nat.le_refl _) hbw) hx
        have hr2 := H2.out.below (Nat.le_refl _) hbw
        obtain ⟨b2, o2, k2, e2, _, p2⟩ := RdS.at hr2 hy
        cases e1
        simp only [Value.slice.injEq] at e2
        obtain ⟨rfl, _, rfl⟩ := e2
        have hj0 : (0 : Int) ≤ (j : Int) := by omega
        have hj1 : (j : Int) < (xs.length : Int) := by omega
        by_cases hxy : x = y
        · subst hxy
          have hn : xs.take (j + 1) = ys.take (j + 1) := by rw [take_snoc hx, take_snoc hy, htk]
          have Hn := Lib.hid hn
          clear hn htk hx hy hr2
          generalize strL x = sx at p1 p2
          go_wp2
          go_quiet (fail)
          go_wp2
          go_roundw
          case rel => exact ⟨j + 1, by omega, by simp, Hn.out, below_drewN hbw _⟩
          case measure => simp [intOf] <;> omega
        · have hne : xs ≠ ys := fun e => by rw [e, hy] at hx; cases hx; exact hxy rfl
          have hb : ((strL x).toList == (strL y).toList) = false := (Lib.bytes_beq_false_iff _ _).2 (fun e => hxy (strL_inj e))
          have Hne := Lib.hid hne
          clear hne htk hx hy hr2 hxy
          generalize strL x = sx at p1 hb
          generalize strL y = sy at p2 hb
          go_wp2
          go_quiet (fail)
          go_wp2
          go_ret
          exact ⟨by rw [decide_eq_false Hne.out]; rfl, below_drewN hbw _⟩
      · have hje : j = xs.length := by omega
        have heq : xs = ys := by
          rw [hje, List.take_of_length_le (Nat.le_refl _), List.take_of_length_le (by rw [Hlen.out]; exact Nat.le_refl _)] at htk; exact htk
        have Heq := Lib.hid heq
        have hjl : ¬ ((j : Int) < (xs.length : Int)) := by omega
        clear htk heq hje
        go_wp2
        go_ret
        exact ⟨by rw [decide_eq_true Heq.out]; rfl, hbw⟩
  · have hne : xs ≠ ys := fun e => hlen (by rw [e])
    have Hne := Lib.hid hne
    have hq : ((xs.length : Int) == (ys.length : Int)) = false := by simpa using hlen
    clear hne
    go_enter Tryz.func58, Tryz.ntmps58
    go_wp2
    go_ret
    exact ⟨by rw [decide_eq_false Hne.out]; rfl, Below.refl _ _⟩
/-- A mail that is not too long. -/
def MailD.light (m : MailD) : Bool := decide (m.rcpts = [] ∨ m.rcpts.length ≤ 50) && (m.rcpts.all (fun l => decide (l.length ≤ 200)) && (decide (m.frm.length ≤ 200) && decide (m.body.length ≤ 9000)))
end Go.Proofs.YtjddicoigbidlaaGreatDoor

set_option linter.unusedSimpArgs false
set_option linter.unusedVariables false
namespace Go.Proofs.YtjddicoigbidlaaGreatDoor
open Go.RowKit
theorem mail_eq (x0 x1 x2 : Int) (x3 : List UInt8) (x4 : List (List UInt8)) (x5 : List UInt8) (y0 y1 y2 : Int) (y3 : List UInt8) (y4 : List (List UInt8)) (y5 : List UInt8) :
    MailD.mk x0 x1 x2 x3 x4 x5 = MailD.mk y0 y1 y2 y3 y4 y5 ↔ x0 = y0 ∧ x1 = y1 ∧ x2 = y2 ∧ x3 = y3 ∧ x4 = y4 ∧ x5 = y5 := by rw [MailD.mk.injEq]
instance : DecidableEq MailD := fun ⟨_, _, _, _, _, _⟩ ⟨_, _, _, _, _, _⟩ => decidable_of_iff _ (mail_eq ..).symm
theorem decide_eq_iff_iff {q : Prop} [Decidable q] {p : Bool} (h : decide q = p) : (p = true) ↔ q := by rw [← h]; exact decide_eq_true_iff
set_option maxRecDepth 100000 in
set_option maxHeartbeats 4000000 in
theorem equalS_calls (v1 v2 : Value) (xs ys : List (List UInt8)) (w : World) (h1 : RdS w v1 xs) (h2 : RdS w v2 ys) :
    Calls Tryz.prog 66 #[v1, v2] w fun e w' => e = .returned (.bool (decide (xs = ys))) ∧ Below w.heap.size w w' := by
  obtain ⟨a1, cap1, rfl, hl1, hc1⟩ := h1.form
  obtain ⟨a2, cap2, rfl, hl2, hc2⟩ := h2.form
  by_cases hlen : xs.length = ys.length
  · have hne : ((xs.length : Int) != (ys.length : Int)) = false := by rw [bne_eq_false_iff_eq]; omega
    have H1 := Lib.hid h1
    have H2 := Lib.hid h2
    have Hlen := Lib.hid hlen
    clear hlen h1 h2
    go_enter Tryz.func66, Tryz.ntmps66
    go_wp2
    go_loopw [13] (fun i wr => ∃ j : Nat, j ≤ xs.length ∧ i = .int .i64 j ∧ xs.take j = ys.take j ∧ Below w.heap.size w wr) (fun i _ => xs.length - (intOf i).toNat)
    case atStart => exact ⟨0, Nat.zero_le _, rfl, rfl, Below.refl _ _⟩
    case round =>
      obtain ⟨j, hj, rfl, htk, hbw⟩ := hrel
      by_cases hlt : j < xs.length
      · obtain ⟨x, hx⟩ : ∃ x, xs[j]? = some x := ⟨_, List.getElem?_eq_getElem hlt⟩
        obtain ⟨y, hy⟩ : ∃ y, ys[j]? = some y := ⟨_, List.getElem?_eq_getElem (by rw [← Hlen.out]; exact hlt)⟩
        obtain ⟨b1, o1, k1, e1, _, p1⟩ := RdS.at (H1.out.below (Nat.le_refl _) hbw) hx
        obtain ⟨b2, o2, k2, e2, _, p2⟩ := RdS.at (H2.out.below (Nat.le_refl _) hbw) hy
        cases e1
        cases e2
        have hj0 : (0 : Int) ≤ (j : Int) := by omega
        have hj1 : (j : Int) < (xs.length : Int) := by omega
        have hj2 : (j : Int) < (ys.length : Int) := by have := Hlen.out; omega
        by_cases hxy : x = y
        · subst hxy
          have hn : xs.take (j + 1) = ys.take (j + 1) := by rw [take_snoc hx, take_snoc hy, htk]
          have Hn := Lib.hid hn
          clear hn htk hx hy
          generalize strL x = sx at p1 p2
          have hb : (!(sx.toList == sx.toList)) = false := by simp
          have hb' : (sx.toList != sx.toList) = false := by simp
          go_wp2
          go_quiet (fail)
          go_wp2
          go_roundw
          case rel => exact ⟨j + 1, by omega, by simp, Hn.out, below_drewN hbw _⟩
          case measure => simp [intOf] <;> omega
        · have hne : xs ≠ ys := fun e => by rw [e, hy] at hx; cases hx; exact hxy rfl
          have hb0 : ((strL x).toList == (strL y).toList) = false := (Lib.bytes_beq_false_iff _ _).2 (fun e => hxy (strL_inj e))
          have hb : (!((strL x).toList == (strL y).toList)) = true := by rw [hb0]; rfl
          have hb' : ((strL x).toList != (strL y).toList) = true := hb
          have Hne := Lib.hid hne
          clear hne htk hx hy hxy
          generalize strL x = sx at p1 hb hb' hb0
          generalize strL y = sy at p2 hb hb' hb0
          go_wp2
          go_quiet (fail)
          go_wp2
          go_ret
          exact ⟨by rw [decide_eq_false Hne.out]; rfl, below_drewN hbw _⟩
      · have hje : j = xs.length := by omega
        have heq : xs = ys := by
          rw [hje, List.take_of_length_le (Nat.le_refl _), List.take_of_length_le (by rw [Hlen.out]; exact Nat.le_refl _)] at htk; exact htk
        have Heq := Lib.hid heq
        have hjl : ¬ ((j : Int) < (xs.length : Int)) := by omega
        clear htk heq hje
        go_wp2
        go_ret
        exact ⟨by rw [decide_eq_true Heq.out]; rfl, hbw⟩
  · have hq : ((xs.length : Int) != (ys.length : Int)) = true := by rw [bne_iff_ne]; omega
    have hne : xs ≠ ys := fun e => hlen (by rw [e])
    have Hne := Lib.hid hne
    clear hne
    go_enter Tryz.func66, Tryz.ntmps66
    go_wp2
    go_ret
    exact ⟨by rw [decide_eq_false Hne.out]; rfl, Below.refl _ _⟩
set_option maxRecDepth 100000 in
set_option maxHeartbeats 4000000 in
theorem refSame_calls (a b : MailD) (ra ba rb bb : Value) (w : World) (h1 : RdS w ra a.rcpts) (h2 : RdB w ba a.body) (h3 : RdS w rb b.rcpts) (h4 : RdB w bb b.body) :
    Calls Tryz.prog 20 #[mailVal a ra ba, mailVal b rb bb] w fun e w' => e = .returned (.bool (decide (a = b))) ∧ Below w.heap.size w w' := by
  obtain ⟨x0, x1, x2, x3, x4, x5⟩ := a
  obtain ⟨y0, y1, y2, y3, y4, y5⟩ := b
  simp only at h1 h2 h3 h4
  unfold mailVal
  simp only
  obtain ⟨p, hp⟩ : ∃ p, decide (MailD.mk x0 x1 x2 x3 x4 x5 = MailD.mk y0 y1 y2 y3 y4 y5) = p := ⟨_, rfl⟩
  rw [hp]
  have hpi := (decide_eq_iff_iff hp).trans (mail_eq ..)
  obtain ⟨W1, hW1⟩ : ∃ W1, w.alloc (.cells #[.int .i64 x0, .int .i64 x1, .int .i64 x2, .string (strL x3), ra, ba] 25) = W1 := ⟨_, rfl⟩
  obtain ⟨W, hW⟩ : ∃ W, W1.alloc (.cells #[.int .i64 y0, .int .i64 y1, .int .i64 y2, .string (strL y3), rb, bb] 25) = W := ⟨_, rfl⟩
  have hbW1 : Below w.heap.size w W1 := by rw [← hW1]; exact (Below.refl _ _).alloc (Nat.le_refl _) _
  have hbW : Below w.heap.size w W := by rw [← hW]; exact hbW1.alloc hbW1.size _
  have hs1 : W1.heap.size = w.heap.size + 1 := by rw [← hW1]; simp
  have hblk1 : W.heap[w.heap.size]? = some (.cells #[.int .i64 x0, .int .i64 x1, .int .i64 x2, .string (strL x3), ra, ba] 25 (0, 0)) := by rw [← hW, ← hW1]; exact heap_alloc2_old _ _ _
  have hblk2 : W.heap[w.heap.size + 1]? = some (.cells #[.int .i64 y0, .int .i64 y1, .int .i64 y2, .string (strL y3), rb, bb] 25 (0, 0)) := by rw [← hW, ← hW1]; exact heap_alloc2_new _ _ _
  have hc1 : ∀ W', Below W.heap.size W W' → ∀ (j : Nat) v, (#[Value.int .i64 x0, .int .i64 x1, .int .i64 x2, .string (strL x3), ra, ba] : Array Value)[j]? = some v → W'.cell? ⟨w.heap.size, j, none⟩ = some v := by
    intro W' hB j v hv
    rw [cell_of_row _ _ _ _ _ _ ((hB.block _ (Array.getElem?_eq_some_iff.1 hblk1).1).trans hblk1)]
    exact hv
  have hc2 : ∀ W', Below W.heap.size W W' → ∀ (j : Nat) v, (#[Value.int .i64 y0, .int .i64 y1, .int .i64 y2, .string (strL y3), rb, bb] : Array Value)[j]? = some v → W'.cell? ⟨w.heap.size + 1, j, none⟩ = some v := by
    intro W' hB j v hv
    rw [cell_of_row _ _ _ _ _ _ ((hB.block _ (Array.getElem?_eq_some_iff.1 hblk2).1).trans hblk2)]
    exact hv
  have hr1 := h1.below (Nat.le_refl _) hbW
  have hb1 := h2.below (Nat.le_refl _) hbW
  have hr2 := h3.below (Nat.le_refl _) hbW
  have hb2 := h4.below (Nat.le_refl _) hbW
  have htx := refTexts_calls ra rb x4 y4 W hr1 hr2
  have a0 := hc1 W (Below.refl _ _) 0 _ rfl
  have b0 := hc2 W (Below.refl _ _) 0 _ rfl
  have a1 := hc1 W (Below.refl _ _) 1 _ rfl
  have b1 := hc2 W (Below.refl _ _) 1 _ rfl
  have a2 := hc1 W (Below.refl _ _) 2 _ rfl
  have b2 := hc2 W (Below.refl _ _) 2 _ rfl
  have a3 := hc1 W (Below.refl _ _) 3 _ rfl
  have b3 := hc2 W (Below.refl _ _) 3 _ rfl
  have a4 := hc1 W (Below.refl _ _) 4 _ rfl
  have b4 := hc2 W (Below.refl _ _) 4 _ rfl
  have Hpi := Lib.hid hpi
  have Hc1 := Lib.hid hc1
  have Hc2 := Lib.hid hc2
  have Hr1 := Lib.hid hr1
  have Hb1 := Lib.hid hb1
  have Hb2 := Lib.hid hb2
  have Htx := Lib.hid htx
  clear hpi hc1 hc2 hr1 hb1 hr2 hb2 htx h1 h2 h3 h4 hblk1 hblk2 hp hs1 hbW1
  subst hW
  subst hW1
  by_cases e0 : x0 = y0
  case neg =>
    have q : (x0 == y0) = false := by rw [beq_eq_false_iff_ne]; exact e0
    have hpf : p = false := by cases p; rfl; exact absurd (Hpi.out.1 rfl).1 e0
    subst hpf
    clear e0
    go_enter Tryz.func20, Tryz.ntmps20
    go_wp2
    go_ret
    exact ⟨rfl, hbW⟩
  subst e0
  by_cases e1 : x1 = y1
  case neg =>
    have q : (x1 == y1) = false := by rw [beq_eq_false_iff_ne]; exact e1
    have hpf : p = false := by cases p; rfl; exact absurd (Hpi.out.1 rfl).2.1 e1
    subst hpf
    clear e1
    go_enter Tryz.func20, Tryz.ntmps20
    go_wp2
    go_ret
    exact ⟨rfl, hbW⟩
  subst e1
  by_cases e2 : x2 = y2
  case neg =>
    have q : (x2 == y2) = false := by rw [beq_eq_false_iff_ne]; exact e2
    have hpf : p = false := by cases p; rfl; exact absurd (Hpi.out.1 rfl).2.2.1 e2
    subst hpf
    clear e2
    go_enter Tryz.func20, Tryz.ntmps20
    go_wp2
    go_ret
    exact ⟨rfl, hbW⟩
  subst e2
  by_cases e3 : x3 = y3
  case neg =>
    have q : ((strL x3).toList == (strL y3).toList) = false := (Lib.bytes_beq_false_iff _ _).2 (fun e => e3 (strL_inj e))
    have hpf : p = false := by cases p; rfl; exact absurd (Hpi.out.1 rfl).2.2.2.1 e3
    subst hpf
    clear e3
    generalize strL x3 = s3 at *
    generalize strL y3 = t3 at *
    go_enter Tryz.func20, Tryz.ntmps20
    go_wp2
    go_ret
    exact ⟨rfl, hbW⟩
  subst e3
  by_cases e4 : x4 = y4
  case neg =>
    have hpf : p = false := by cases p; rfl; exact absurd (Hpi.out.1 rfl).2.2.2.2.1 e4
    subst hpf
    rw [decide_eq_false e4] at Htx
    clear e4
    generalize strL x3 = s3 at *
    go_enter Tryz.func20, Tryz.ntmps20
    go_wp2_with fail
    refine (Htx.out).mono ?_; rintro e w2 ⟨rfl, hb2⟩
    have hbw2 := hbW.trans (hb2.mono hbW.size)
    go_wp2
    go_ret
    exact ⟨rfl, hbw2⟩
  rw [decide_eq_true e4] at Htx
  have hpx : p = decide (x5 = y5) := by
    rw [Bool.eq_iff_iff, Hpi.out, decide_eq_true_iff]
    exact ⟨fun h => h.2.2.2.2.2, fun h => ⟨rfl, rfl, rfl, rfl, e4, h⟩⟩
  clear Hpi
  subst hpx
  clear e4
  generalize strL x3 = s3 at *
  by_cases e5 : x5 = y5
  · subst e5
    rw [decide_eq_true rfl]
    go_enter Tryz.func20, Tryz.ntmps20
    go_wp2_with fail
    refine (Htx.out).mono ?_; rintro e w2 ⟨rfl, hb2⟩
    have hbw2 := hbW.trans (hb2.mono hbW.size)
    have a5 := Hc1.out w2 hb2 5 _ rfl
    have b5 := Hc2.out w2 hb2 5 _ rfl
    have c1 := run_strL (Hb1.out.below (Nat.le_refl _) hb2)
    have c2 := run_strL (Hb2.out.below (Nat.le_refl _) hb2)
    generalize strL x5 = s5 at c1 c2
    go_wp2
    go_ret
    exact ⟨rfl, hbw2⟩
  · have q : ((strL x5).toList == (strL y5).toList) = false := (Lib.bytes_beq_false_iff _ _).2 (fun e => e5 (strL_inj e))
    rw [decide_eq_false e5]
    clear e5
    go_enter Tryz.func20, Tryz.ntmps20
    go_wp2_with fail
    refine (Htx.out).mono ?_; rintro e w2 ⟨rfl, hb2⟩
    have hbw2 := hbW.trans (hb2.mono hbW.size)
    have a5 := Hc1.out w2 hb2 5 _ rfl
    have b5 := Hc2.out w2 hb2 5 _ rfl
    have c1 := run_strL (Hb1.out.below (Nat.le_refl _) hb2)
    have c2 := run_strL (Hb2.out.below (Nat.le_refl _) hb2)
    generalize strL x5 = s5 at q c1
    generalize strL y5 = t5 at q c2
    go_wp2
    go_ret
    exact ⟨rfl, hbw2⟩
set_option maxRecDepth 100000 in
set_option maxHeartbeats 4000000 in
theorem envSame_calls (a b : MailD) (ra ba rb bb : Value) (w : World) (h1 : RdS w ra a.rcpts) (h2 : RdB w ba a.body) (h3 : RdS w rb b.rcpts) (h4 : RdB w bb b.body) :
    Calls Tryz.prog 39 #[mailVal a ra ba, mailVal b rb bb] w fun e w' => e = .returned (.bool (decide (a = b))) ∧ Below w.heap.size w w' := by
  obtain ⟨x0, x1, x2, x3, x4, x5⟩ := a
  obtain ⟨y0, y1, y2, y3, y4, y5⟩ := b
  simp only at h1 h2 h3 h4
  unfold mailVal
  simp only
  obtain ⟨p, hp⟩ : ∃ p, decide (MailD.mk x0 x1 x2 x3 x4 x5 = MailD.mk y0 y1 y2 y3 y4 y5) = p := ⟨_, rfl⟩
  rw [hp]
  have hpi := (decide_eq_iff_iff hp).trans (mail_eq ..)
  obtain ⟨W1, hW1⟩ : ∃ W1, w.alloc (.cells #[.int .i64 x0, .int .i64 x1, .int .i64 x2, .string (strL x3), ra, ba] 25) = W1 := ⟨_, rfl⟩
  obtain ⟨W, hW⟩ : ∃ W, W1.alloc (.cells #[.int .i64 y0, .int .i64 y1, .int .i64 y2, .string (strL y3), rb, bb] 25) = W := ⟨_, rfl⟩
  have hbW1 : Below w.heap.size w W1 := by rw [← hW1]; exact (Below.refl _ _).alloc (Nat.le_refl _) _
  have hbW : Below w.heap.size w W := by rw [← hW]; exact hbW1.alloc hbW1.size _
  have hs1 : W1.heap.size = w.heap.size + 1 := by rw [← hW1]; simp
  have hblk1 : W.heap[w.heap.size]? = some (.cells #[.int .i64 x0, .int .i64 x1, .int .i64 x2, .string (strL x3), ra, ba] 25 (0, 0)) := by rw [← hW, ← hW1]; exact heap_alloc2_old _ _ _
  have hblk2 : W.heap[w.heap.size + 1]? = some (.cells #[.int .i64 y0, .int .i64 y1, .int .i64 y2, .string (strL y3), rb, bb] 25 (0, 0)) := by rw [← hW, ← hW1]; exact heap_alloc2_new _ _ _
  have hc1 : ∀ W', Below W.heap.size W W' → ∀ (j : Nat) v, (#[Value.int .i64 x0, .int .i64 x1, .int .i64 x2, .string (strL x3), ra, ba] : Array Value)[j]? = some v → W'.cell? ⟨w.heap.size, j, none⟩ = some v := by
    intro W' hB j v hv
    rw [cell_of_row _ _ _ _ _ _ ((hB.block _ (Array.getElem?_eq_some_iff.1 hblk1).1).trans hblk1)]
    exact hv
  have hc2 : ∀ W', Below W.heap.size W W' → ∀ (j : Nat) v, (#[Value.int .i64 y0, .int .i64 y1, .int .i64 y2, .string (strL y3), rb, bb] : Array Value)[j]? = some v → W'.cell? ⟨w.heap.size + 1, j, none⟩ = some v := by
    intro W' hB j v hv
    rw [cell_of_row _ _ _ _ _ _ ((hB.block _ (Array.getElem?_eq_some_iff.1 hblk2).1).trans hblk2)]
    exact hv
  have hr1 := h1.below (Nat.le_refl _) hbW
  have hb1 := h2.below (Nat.le_refl _) hbW
  have hr2 := h3.below (Nat.le_refl _) hbW
  have hb2 := h4.below (Nat.le_refl _) hbW
  have htx := equalS_calls ra rb x4 y4 W hr1 hr2
  have a0 := hc1 W (Below.refl _ _) 0 _ rfl
  have b0 := hc2 W (Below.refl _ _) 0 _ rfl
  have a1 := hc1 W (Below.refl _ _) 1 _ rfl
  have b1 := hc2 W (Below.refl _ _) 1 _ rfl
  have a2 := hc1 W (Below.refl _ _) 2 _ rfl
  have b2 := hc2 W (Below.refl _ _) 2 _ rfl
  have a3 := hc1 W (Below.refl _ _) 3 _ rfl
  have b3 := hc2 W (Below.refl _ _) 3 _ rfl
  have a4 := hc1 W (Below.refl _ _) 4 _ rfl
  have b4 := hc2 W (Below.refl _ _) 4 _ rfl
  have Hpi := Lib.hid hpi
  have Hc1 := Lib.hid hc1
  have Hc2 := Lib.hid hc2
  have Hr1 := Lib.hid hr1
  have Hb1 := Lib.hid hb1
  have Hb2 := Lib.hid hb2
  have Htx := Lib.hid htx
  clear hpi hc1 hc2 hr1 hb1 hr2 hb2 htx h1 h2 h3 h4 hblk1 hblk2 hp hs1 hbW1
  subst hW
  subst hW1
  by_cases e0 : x0 = y0
  case neg =>
    have q : (x0 == y0) = false := by rw [beq_eq_false_iff_ne]; exact e0
    have hpf : p = false := by cases p; rfl; exact absurd (Hpi.out.1 rfl).1 e0
    subst hpf
    clear e0
    go_enter Tryz.func39, Tryz.ntmps39
    go_wp2
    go_ret
    exact ⟨rfl, hbW⟩
  subst e0
  by_cases e1 : x1 = y1
  case neg =>
    have q : (x1 == y1) = false := by rw [beq_eq_false_iff_ne]; exact e1
    have hpf : p = false := by cases p; rfl; exact absurd (Hpi.out.1 rfl).2.1 e1
    subst hpf
    clear e1
    go_enter Tryz.func39, Tryz.ntmps39
    go_wp2
    go_ret
    exact ⟨rfl, hbW⟩
  subst e1
  by_cases e2 : x2 = y2
  case neg =>
    have q : (x2 == y2) = false := by rw [beq_eq_false_iff_ne]; exact e2
    have hpf : p = false := by cases p; rfl; exact absurd (Hpi.out.1 rfl).2.2.1 e2
    subst hpf
    clear e2
    go_enter Tryz.func39, Tryz.ntmps39
    go_wp2
    go_ret
    exact ⟨rfl, hbW⟩
  subst e2
  by_cases e3 : x3 = y3
  case neg =>
    have q : ((strL x3).toList == (strL y3).toList) = false := (Lib.bytes_beq_false_iff _ _).2 (fun e => e3 (strL_inj e))
    have hpf : p = false := by cases p; rfl; exact absurd (Hpi.out.1 rfl).2.2.2.1 e3
    subst hpf
    clear e3
    generalize strL x3 = s3 at *
    generalize strL y3 = t3 at *
    go_enter Tryz.func39, Tryz.ntmps39
    go_wp2
    go_ret
    exact ⟨rfl, hbW⟩
  subst e3
  by_cases e4 : x4 = y4
  case neg =>
    have hpf : p = false := by cases p; rfl; exact absurd (Hpi.out.1 rfl).2.2.2.2.1 e4
    subst hpf
    rw [decide_eq_false e4] at Htx
    clear e4
    generalize strL x3 = s3 at *
    go_enter Tryz.func39, Tryz.ntmps39
    go_wp2_with fail
    refine (Htx.out).mono ?_; rintro e w2 ⟨rfl, hb2⟩
    have hbw2 := hbW.trans (hb2.mono hbW.size)
    go_wp2
    go_ret
    exact ⟨rfl, hbw2⟩
  rw [decide_eq_true e4] at Htx
  have hpx : p = decide (x5 = y5) := by
    rw [Bool.eq_iff_iff, Hpi.out, decide_eq_true_iff]
    exact ⟨fun h => h.2.2.2.2.2, fun h => ⟨rfl, rfl, rfl, rfl, e4, h⟩⟩
  clear Hpi
  subst hpx
  clear e4
  generalize strL x3 = s3 at *
  by_cases e5 : x5 = y5
  case neg =>
    have heq := fun w2 h1 h2 => equal_calls ba bb x5 y5 w2 h1 h2
    rw [decide_eq_false e5] at heq ⊢
    have Heq := Lib.hid heq
    clear heq
    go_enter Tryz.func39, Tryz.ntmps39
    go_wp2_with fail
    refine (Htx.out).mono ?_; rintro e w2 ⟨rfl, hb2⟩
    have hbw2 := hbW.trans (hb2.mono hbW.size)
    have a5 := Hc1.out w2 hb2 5 _ rfl
    have b5 := Hc2.out w2 hb2 5 _ rfl
    go_wp2_with fail
    refine (Heq.out w2 (Hb1.out.below (Nat.le_refl _) hb2) (Hb2.out.below (Nat.le_refl _) hb2)).mono ?_; rintro e w3 ⟨rfl, hb3⟩
    have hbw3 := hbw2.trans (hb3.mono hbw2.size)
    go_wp2
    go_ret
    exact ⟨rfl, hbw3⟩
  have heq := fun w2 h1 h2 => equal_calls ba bb x5 y5 w2 h1 h2
  rw [decide_eq_true e5] at heq ⊢
  have Heq := Lib.hid heq
  clear heq
  go_enter Tryz.func39, Tryz.ntmps39
  go_wp2_with fail
  refine (Htx.out).mono ?_; rintro e w2 ⟨rfl, hb2⟩
  have hbw2 := hbW.trans (hb2.mono hbW.size)
  have a5 := Hc1.out w2 hb2 5 _ rfl
  have b5 := Hc2.out w2 hb2 5 _ rfl
  go_wp2_with fail
  refine (Heq.out w2 (Hb1.out.below (Nat.le_refl _) hb2) (Hb2.out.below (Nat.le_refl _) hb2)).mono ?_; rintro e w3 ⟨rfl, hb3⟩
  have hbw3 := hbw2.trans (hb3.mono hbw2.size)
  go_wp2
  go_ret
  exact ⟨rfl, hbw3⟩
end Go.Proofs.YtjddicoigbidlaaGreatDoor

set_option linter.unusedSimpArgs false
set_option linter.unusedVariables false
namespace Go.Proofs.YtjddicoigbidlaaGreatDoor
open Go.RowKit
theorem light_iff (m : MailD) : m.light = true ↔ (m.rcpts = [] ∨ m.rcpts.length ≤ 50) ∧ (∀ l ∈ m.rcpts, l.length ≤ 200) ∧ m.frm.length ≤ 200 ∧ m.body.length ≤ 9000 := by
  unfold MailD.light
  rw [Bool.and_eq_true, Bool.and_eq_true, Bool.and_eq_true, List.all_eq_true]
  simp only [decide_eq_true_eq]
set_option maxRecDepth 100000 in
set_option maxHeartbeats 4000000 in
theorem light_calls (m : MailD) (vr vb : Value) (w : World) (hr : RdS w vr m.rcpts) (hb : RdB w vb m.body) :
    Calls Tryz.prog 12 #[mailVal m vr vb] w fun e w' => e = .returned (.bool m.light) ∧ Below w.heap.size w w' := by
  have hiff := light_iff m
  obtain ⟨p, hp⟩ : ∃ p, m.light = p := ⟨_, rfl⟩
  rw [hp] at hiff ⊢
  obtain ⟨ar, capr, rfl, hlr, hcr⟩ := hr.form
  obtain ⟨ab, capb, rfl, hlb, hcb⟩ := hb.form
  obtain ⟨id, parent, born, frm, rcpts, body⟩ := m
  simp only at hr hb hlr hlb hiff
  unfold mailVal
  simp only
  obtain ⟨W, hW⟩ : ∃ W, w.alloc (.cells #[.int .i64 id, .int .i64 parent, .int .i64 born, .string (strL frm), .slice ar rcpts.length capr, .slice ab body.length capb] 25) = W := ⟨_, rfl⟩
  have hbW : Below w.heap.size w W := by rw [← hW]; exact (Below.refl _ _).alloc (Nat.le_refl _) _
  have hblk : W.heap[w.heap.size]? = some (.cells #[.int .i64 id, .int .i64 parent, .int .i64 born, .string (strL frm), .slice ar rcpts.length capr, .slice ab body.length capb] 25 (0, 0)) := by rw [← hW]; exact heap_alloc_new w _
  have hsW := (Array.getElem?_eq_some_iff.1 hblk).1
  have hcell : ∀ W', Below W.heap.size W W' → ∀ (j : Nat) v, (#[Value.int .i64 id, .int .i64 parent, .int .i64 born, .string (strL frm), .slice ar rcpts.length capr, .slice ab body.length capb] : Array Value)[j]? = some v → W'.cell? ⟨w.heap.size, j, none⟩ = some v := by
    intro W' hB j v hv
    rw [cell_of_row _ _ _ _ _ _ ((hB.block _ hsW).trans hblk)]
    exact hv
  have hr1 := hr.below (Nat.le_refl _) hbW
  have hlrI : (rcpts.length : Int) ≤ 9223372036854775807 := by omega
  have hlbI : (body.length : Int) ≤ 9223372036854775807 := by omega
  have hfs := strL_size frm
  have Hcell := Lib.hid hcell
  have Hr := Lib.hid hr1
  have Hiff := Lib.hid hiff
  have Hblk := Lib.hid hblk
  clear hcell hr hb hr1 hiff hblk hp
  go_enter Tryz.func12, Tryz.ntmps12
  go_wp2
  go_loopw [3] (fun i wr => ∃ j : Nat, j ≤ rcpts.length ∧ i = .int .i64 j ∧ (j = 0 ∨ rcpts.length ≤ 50) ∧ (∀ l ∈ rcpts.take j, l.length ≤ 200) ∧ Below W.heap.size W wr) (fun i _ => rcpts.length - (intOf i).toNat)
  case atStart => exact ⟨0, Nat.zero_le _, rfl, .inl rfl, by simp, by rw [← hW]; exact Below.refl _ _⟩
  case round =>
    obtain ⟨j, hj, rfl, h50, hall, hbw⟩ := hrel
    have c3 := Hcell.out wr hbw 3 _ rfl
    have c4 := Hcell.out wr hbw 4 _ rfl
    have c5 := Hcell.out wr hbw 5 _ rfl
    have hbw2 := hbW.trans (hbw.mono hbW.size)
    by_cases hlt : j < rcpts.length
    · by_cases hbig : 50 < rcpts.length
      · have hpf : p = false := by
          cases p
          · rfl
          · rcases (Hiff.out.1 rfl).1 with h | h
            · simp [h] at hlt
            · omega
        subst hpf
        clear hall
        go_wp2
        go_ret
        exact ⟨rfl, hbw2⟩
      · obtain ⟨x, hx⟩ : ∃ x, rcpts[j]? = some x := ⟨_, List.getElem?_eq_getElem hlt⟩
        obtain ⟨b1, o1, k1, e1, _, p1⟩ := RdS.at (Hr.out.below (Nat.le_refl _) hbw) hx
        cases e1
        have hj0 : (0 : Int) ≤ (j : Int) := by omega
        have hj1 : (j : Int) < (rcpts.length : Int) := by omega
        have hxs := strL_size x
        by_cases hbg : 200 < x.length
        · have hpf : p = false := by
            cases p
            · rfl
            · have := (Hiff.out.1 rfl).2.1 x (List.mem_of_getElem? hx); omega
          subst hpf
          have hz : (200 : Int) < ((strL x).size : Int) := by omega
          clear hall hx
          generalize strL x = sx at p1 hxs hz
          go_wp2
          go_ret
          exact ⟨by first | rfl | exact ret_bool (by simp; omega), hbw2⟩
        · have hall2 : ∀ l ∈ rcpts.take (j + 1), l.length ≤ 200 := by
            rw [take_snoc hx]
            intro l hl
            rcases List.mem_append.1 hl with h | h
            · exact hall l h
            · rw [List.mem_singleton.1 h]; omega
          have Hall2 := Lib.hid hall2
          have hz : ¬ (200 : Int) < ((strL x).size : Int) := by omega
          clear hall hx hall2
          generalize strL x = sx at p1 hxs hz
          go_wp2
          go_roundw
          case rel => exact ⟨j + 1, by omega, by simp, .inr (by omega), Hall2.out, hbw⟩
          case measure => simp [intOf] <;> omega
    · have hje : j = rcpts.length := by omega
      have h50' : rcpts = [] ∨ rcpts.length ≤ 50 := by
        rcases h50 with h | h
        · exact .inl (List.length_eq_zero_iff.1 (by omega))
        · exact .inr h
      rw [hje, List.take_of_length_le (Nat.le_refl _)] at hall
      have hpp : p = true ↔ frm.length ≤ 200 ∧ body.length ≤ 9000 := Hiff.out.trans ⟨fun h => h.2.2, fun h => ⟨h50', hall, h⟩⟩
      have Hpp := Lib.hid hpp
      have hjl : ¬ ((j : Int) < (rcpts.length : Int)) := by omega
      clear hall hpp h50' h50
      by_cases hf : frm.length ≤ 200
      · have hz : ((strL frm).size : Int) ≤ 200 := by omega
        by_cases hbd : body.length ≤ 9000
        · have hpt : p = true := Hpp.out.2 ⟨hf, hbd⟩
          subst hpt
          generalize strL frm = sf at c3 hz
          go_wp2
          go_ret
          exact ⟨by first | rfl | exact ret_bool (by simp; omega), hbw2⟩
        · have hpf : p = false := by cases p; rfl; exact absurd (Hpp.out.1 rfl).2 hbd
          subst hpf
          generalize strL frm = sf at c3 hz
          go_wp2
          go_ret
          exact ⟨by first | rfl | exact ret_bool (by simp; omega), hbw2⟩
      · have hpf : p = false := by cases p; rfl; exact absurd (Hpp.out.1 rfl).1 hf
        have hz : ¬ ((strL frm).size : Int) ≤ 200 := by omega
        subst hpf
        generalize strL frm = sf at c3 hz
        go_wp2
        go_ret
        exact ⟨rfl, hbw2⟩
end Go.Proofs.YtjddicoigbidlaaGreatDoor

set_option linter.unusedSimpArgs false
set_option linter.unusedVariables false
set_option maxRecDepth 100000
namespace Go.Proofs.YtjddicoigbidlaaGreatDoor
open Go.ChangeShapes Go.WideShapes Go.Deep Go.RowKit
/-- The library's variable holds a number, whatever the world. -/
theorem maxOk_of {W : World} (h : W.ShapedOpen Tryz.prog) : MaxOk W :=
  Go.Proofs.cell_of_shapedOpen_int (zero := #[.int .i64 0]) (t := 3) h (of_decide_eq_true (by kernel_rfl)) (by kernel_rfl) rfl (by kernel_rfl) (by kernel_rfl) Tryz.underlying3
section
variable {H : Type} {enc : TypeId × Value → H} {W : World} {base : Nat} {held : Bool} {n : Nat} {c : Value} {y : DataW H × List MemPlace}
theorem rdB_trod (h : DataW.trod enc Tryz.prog W base (fun _ => true) held n 23 [c] = some y) : ∃ bs, RdB W c bs ∧ NilOk c := by
  rcases open_ints Tryz.underlying23 Tryz.underlying5 (by kernel_rfl) h with ⟨hcs, _⟩ | ⟨x, l, cp, zs, hcs, _, hl, hm, hz, _, hcell, hwz⟩
  · cases hcs
    exact ⟨[], .inl ⟨_, _, rfl, by decide, rfl⟩, fun l c e => by cases e; exact ⟨rfl, rfl⟩⟩
  · cases hcs
    obtain ⟨bs, hb, _⟩ := rdB_of (w := W) (a := some x) (len := l) (cap := cp) (.inr ⟨_, rfl, hl, hm, by simpa using hz, hcell, hwz⟩)
    exact ⟨bs, hb, fun l c e => by cases e⟩
theorem rdS_trod (h : DataW.trod enc Tryz.prog W base (fun _ => true) held n 22 [c] = some y) : ∃ ls, RdS W c ls ∧ NilOk c := by
  rcases open_strings Tryz.underlying22 Tryz.underlying9 (by kernel_rfl) h with ⟨hcs, _⟩ | ⟨x, l, cp, ss, hcs, _, hl, hm, hz, _, hcell, hwz⟩
  · cases hcs
    exact ⟨[], .inl ⟨_, _, rfl, by decide, rfl⟩, fun l c e => by cases e; exact ⟨rfl, rfl⟩⟩
  · cases hcs
    rw [if_pos rfl] at hz
    by_cases h0 : l = 0
    · subst h0
      exact ⟨[], .inl ⟨_, _, rfl, hm, rfl⟩, fun l c e => by cases e⟩
    · obtain ⟨b, off, s⟩ := x
      have hs : s = none := by
        cases s with
        | none => rfl
        | some q =>
          have := hcell 0 (by omega)
          rw [Addr.add, if_pos rfl] at this
          unfold World.cell? at this
          split at this <;> simp at this
      subst hs
      refine ⟨(ss.take l).map fun s => s.data.toList, .inr ⟨b, off, cp, ?_, ?_, ?_, hm, ?_, ?_⟩, fun l c e => by cases e⟩
      · rw [List.length_map, List.length_take, Nat.min_eq_left (by omega)]
      · rw [← List.length_pos_iff, List.length_map, List.length_take]; omega
      · rw [List.length_map, List.length_take]; omega
      · have := hcell 0 (by omega)
        rw [add_at] at this
        exact World.block_lt_of_cell? W ⟨b, off + 0, none⟩ this
      · intro i q hq j u hu
        rw [List.getElem?_map] at hq
        obtain ⟨s, hs, rfl⟩ := Option.map_eq_some_iff.1 hq
        rw [List.getElem?_take] at hs
        split at hs
        · have hi : i < ss.length := (List.getElem?_eq_some_iff.1 hs).1
          have hc := hcell i hi
          rw [add_at, List.getD_eq_getElem?_getD, hs] at hc
          cases j with
          | zero =>
            rw [s1] at hu
            cases hu
            rw [Nat.mul_one, Nat.add_zero]
            rw [hc]; rfl
          | succ j => rw [s1] at hu; cases hu
        · cases hs
end
theorem fieldsMail : ∃ f0 f1 f2 f3 f4 f5 : Field, Tryz.prog.underlying 25 = some (.struct #[f0, f1, f2, f3, f4, f5]) ∧ (f0.type = 3 ∧ f0.offset = 0) ∧ (f1.type = 3 ∧ f1.offset = 1) ∧ (f2.type = 3 ∧ f2.offset = 2) ∧ (f3.type = 9 ∧ f3.offset = 3) ∧ (f4.type = 22 ∧ f4.offset = 4) ∧ (f5.type = 23 ∧ f5.offset = 5) :=
  ⟨_, _, _, _, _, _, Tryz.underlying25, ⟨rfl, rfl⟩, ⟨rfl, rfl⟩, ⟨rfl, rfl⟩, ⟨rfl, rfl⟩, ⟨rfl, rfl⟩, rfl, rfl⟩
theorem mail_arg {H : Type} {enc : TypeId × Value → H} {W : World} {r : Reach} {b0 base : Nat} {held : Bool} {v : Value} {d : DataW H} {p : List MemPlace}
    (hv : Value.okWide Tryz.prog W r b0 25 v) (h : DataW.Trod enc Tryz.prog W base (fun _ => true) held 25 v d p) :
    ∃ m vr vb, v = mailVal m vr vb ∧ RdS W vr m.rcpts ∧ RdB W vb m.body ∧ NilOk vr ∧ NilOk vb := by
  obtain ⟨f0, f1, f2, f3, f4, f5, hu, ⟨t0, o0⟩, ⟨t1, o1⟩, ⟨t2, o2⟩, ⟨t3, o3⟩, ⟨t4, o4⟩, t5, o5⟩ := fieldsMail
  obtain ⟨cs, rfl, hsz⟩ := okWide_struct hu hv
  obtain ⟨fuel, hf⟩ := h
  obtain ⟨xs, m, _, _, hl, hxl, hat⟩ := DataW.trod_struct hu hf
  have hc : Tryz.prog.cellsOf 25 = 6 := by kernel_rfl
  have hi : Tryz.prog.cellsOf 3 = 1 := by kernel_rfl
  have hs : Tryz.prog.cellsOf 9 = 1 := by kernel_rfl
  have hss : Tryz.prog.cellsOf 22 = 1 := by kernel_rfl
  have hbb : Tryz.prog.cellsOf 23 = 1 := by kernel_rfl
  rw [hc] at hl
  obtain ⟨cs⟩ := cs
  have hl : cs.length = 6 := by simpa [Value.cells] using hl
  match cs, hl with
  | [c0, c1, c2, c3, c4, c5], _ =>
    match xs, hxl with
    | [y0, y1, y2, y3, y4, y5], _ =>
      have g0 := hat 0 f0 rfl
      have g1 := hat 1 f1 rfl
      have g2 := hat 2 f2 rfl
      have g3 := hat 3 f3 rfl
      have g4 := hat 4 f4 rfl
      have g5 := hat 5 f5 rfl
      rw [t0, o0, hi] at g0
      rw [t1, o1, hi] at g1
      rw [t2, o2, hi] at g2
      rw [t3, o3, hs] at g3
      rw [t4, o4, hss] at g4
      rw [t5, o5, hbb] at g5
      obtain ⟨n0, e0, _⟩ := DataW.trod_int (P := Tryz.prog) Tryz.underlying3 g0
      obtain ⟨n1, e1, _⟩ := DataW.trod_int (P := Tryz.prog) Tryz.underlying3 g1
      obtain ⟨n2, e2, _⟩ := DataW.trod_int (P := Tryz.prog) Tryz.underlying3 g2
      obtain ⟨s3, e3, _⟩ := DataW.trod_string (P := Tryz.prog) Tryz.underlying9 g3
      simp only [Value.cells, List.drop_succ_cons, List.drop_zero, List.take_succ_cons, List.take_zero, List.cons.injEq, and_true] at e0 e1 e2 e3 g4 g5
      obtain ⟨ls, hr, hn⟩ := rdS_trod g4
      obtain ⟨bs, hb, hn2⟩ := rdB_trod g5
      subst e0 e1 e2 e3
      exact ⟨⟨n0, n1, n2, s3.data.toList, ls, bs⟩, c4, c5, rfl, hr, hb, hn, hn2⟩
/-- A slice of bytes that comes in: its block is there. -/
theorem block_arg {W : World} {r : Reach} {b0 : Nat} {t e : TypeId} (ht : Tryz.prog.underlying t = some (.slice e)) {v : Value} (hv : Value.okWide Tryz.prog W r b0 t v) : ∀ k, v.ownBlock = some k → k < W.heap.size := by
  obtain ⟨a, len, cap, rfl⟩ := okWide_slice ht hv
  intro k hk
  cases a with
  | none => cases hk
  | some a =>
    cases hk
    simp only [Value.okWide, ht, Cell.okWide, Cell.ok] at hv
    obtain ⟨_, _, _, _, row, cells, hsh, _⟩ := hv
    unfold World.shape? at hsh
    rcases Nat.lt_or_ge a.block W.heap.size with h | h
    · exact h
    · rw [Array.getElem?_eq_none h] at hsh; cases hsh
section
variable {H : Type} {enc : TypeId × Value → H}
/-- 'There is an input that fits', where great tables are laid. -/
theorem witness_laid {C : Checked} {os : Os} {f : FuncId} {fn : Func} {s : OpenSpec} {conds : List PathCond} {apart : Bool} {laid : List (String × DataW Unit)} (w0 : World) (args : Array Value) (hos : w0.os = os)
    (hsh : (w0.forCall (fun _ _ => 0) ⟨#[], args, []⟩).Shaped C.prog)
    (hok : Input.okWideB C.prog (w0.forCall (fun _ _ => 0) ⟨#[], args, []⟩) f ⟨#[], args, []⟩ = true)
    (hrow : s.preRow enc C.prog fn conds apart laid (w0.forCall (fun _ _ => 0) ⟨#[], args, []⟩).memory args) :
    ∃ (w : World) (tape : Tape) (i : Input), w.os = os ∧ (w.forCall tape i).Shaped C.prog ∧ i.vars = [] ∧ Input.okWide C.prog (w.forCall tape i) .any w.heap.size f i ∧
      s.preRow enc C.prog fn conds apart laid (w.forCall tape i).memory i.args ∧ ({} : Assume).holds C.prog (lone (Frame.enter C.prog f i.args .normal) [] (w.forCall tape i)) :=
  ⟨w0, fun _ _ => 0, ⟨#[], args, []⟩, hos, hsh, (Input.okWide_of_okWideB (base := 0) hok).1, (Input.okWide_of_okWideB hok).2, hrow, by
    simp only [Assume.holds]
    exact ⟨by simp, by simp, (fun h => by cases h), by simp, by simp⟩⟩
end
end Go.Proofs.YtjddicoigbidlaaGreatDoor

set_option linter.unusedSimpArgs false
set_option linter.unusedVariables false
set_option maxRecDepth 100000
namespace Go.Proofs.YtjddicoigbidlaaGreatDoor
open Go.ChangeShapes Go.WideShapes Go.Deep Go.RowKit
theorem addr_plain {w : World} {x : Addr} {n : Nat} {v : Value} (h : w.cell? (x.add 0) = some v) : ∃ b off, x = ⟨b, off, none⟩ := by
  obtain ⟨b, off, s⟩ := x
  rw [Addr.add, if_pos rfl] at h
  cases s with
  | none => exact ⟨b, off, rfl⟩
  | some s => unfold World.cell? at h; split at h <;> simp at h
theorem add_plain (b off i : Nat) : Addr.add ⟨b, off, none⟩ i = ⟨b, off + i, none⟩ := by
  unfold Addr.add
  split
  · next h => subst h; rfl
  · rfl
section
variable {H : Type} {enc : TypeId × Value → H} {W : World} {r : Reach} {b0 base : Nat} {spare : Nat → Bool} {held : Bool} {v : Value} {d : DataW H} {p : List MemPlace}
theorem rdB_arg (hv : Value.okWide Tryz.prog W r b0 23 v) (h : DataW.Trod enc Tryz.prog W base (fun _ => true) held 23 v d p) : ∃ bs, RdB W v bs := by
  obtain ⟨a0, len0, cap0, rfl⟩ := okWide_slice Tryz.underlying23 hv
  obtain ⟨fuel, hf⟩ := h
  rcases open_ints Tryz.underlying23 Tryz.underlying5 (by kernel_rfl) hf with ⟨hcs, _⟩ | ⟨x, l, c, zs, hcs, _, hl, hm, hz, _, hcell, hwz⟩
  · simp [Value.cells] at hcs
    obtain ⟨rfl, rfl, rfl⟩ := hcs
    exact ⟨[], .inl ⟨_, _, rfl, by decide, rfl⟩⟩
  · simp [Value.cells] at hcs
    obtain ⟨rfl, rfl, rfl⟩ := hcs
    obtain ⟨bs, hb, _⟩ := rdB_of (w := W) (a := some x) (len := len0) (cap := cap0) (.inr ⟨_, rfl, hl, hm, by simpa using hz, hcell, hwz⟩)
    exact ⟨bs, hb⟩
theorem fieldsMark : ∃ f0 f1 f2 : Field, Tryz.prog.underlying 52 = some (.struct #[f0, f1, f2]) ∧ (f0.type = 3 ∧ f0.offset = 0) ∧ (f1.type = 3 ∧ f1.offset = 1) ∧ (f2.type = 3 ∧ f2.offset = 2) :=
  ⟨_, _, _, Tryz.underlying52, ⟨rfl, rfl⟩, ⟨rfl, rfl⟩, rfl, rfl⟩
/-- The cells of one mark. -/
theorem mark_cells {n : Nat} {cs : List Value} {x : DataW H × List MemPlace} (h : DataW.trod enc Tryz.prog W base spare held n 52 cs = some x) :
    ∃ k : MarkD, cs = k.cells := by
  obtain ⟨f0, f1, f2, hu, ⟨t0, o0⟩, ⟨t1, o1⟩, t2, o2⟩ := fieldsMark
  obtain ⟨xs, m, _, _, hl, hxl, hat⟩ := DataW.trod_struct hu h
  have hc : Tryz.prog.cellsOf 52 = 3 := by kernel_rfl
  have hi : Tryz.prog.cellsOf 3 = 1 := by kernel_rfl
  rw [hc] at hl
  match cs, hl with
  | [c0, c1, c2], _ =>
    match xs, hxl with
    | [y0, y1, y2], _ =>
      have g0 := hat 0 f0 rfl
      have g1 := hat 1 f1 rfl
      have g2 := hat 2 f2 rfl
      rw [t0, o0, hi] at g0
      rw [t1, o1, hi] at g1
      rw [t2, o2, hi] at g2
      obtain ⟨n0, e0, _⟩ := DataW.trod_int (P := Tryz.prog) Tryz.underlying3 g0
      obtain ⟨n1, e1, _⟩ := DataW.trod_int (P := Tryz.prog) Tryz.underlying3 g1
      obtain ⟨n2, e2, _⟩ := DataW.trod_int (P := Tryz.prog) Tryz.underlying3 g2
      simp only [List.drop_succ_cons, List.drop_zero, List.take_succ_cons, List.take_zero, List.cons.injEq, and_true] at e0 e1 e2
      subst e0 e1 e2
      exact ⟨⟨n0, n1, n2⟩, rfl⟩
theorem rdM_arg (hv : Value.okWide Tryz.prog W r b0 39 v) (h : DataW.Trod enc Tryz.prog W base (fun _ => true) held 39 v d p) : ∃ ks, RdM W v ks := by
  obtain ⟨a0, len0, cap0, rfl⟩ := okWide_slice Tryz.underlying39 hv
  obtain ⟨fuel, hf⟩ := h
  rcases open_slice Tryz.underlying39 hf with ⟨hcs, _⟩ | ⟨x, l, c, m, n, D, Pl, hcs, _, hl, hm, hmm, _, hcell⟩
  · simp [Value.cells] at hcs
    obtain ⟨rfl, rfl, rfl⟩ := hcs
    exact ⟨[], .inl ⟨_, _, rfl, by decide, rfl⟩⟩
  · simp [Value.cells] at hcs
    obtain ⟨rfl, rfl, rfl⟩ := hcs
    rw [if_pos rfl] at hmm
    subst hmm
    have hc : Tryz.prog.cellsOf 52 = 3 := by kernel_rfl
    have hall : ∀ i : Nat, i < m → ∃ k : MarkD, W.cells? base (x.add (i * 3)) 3 = some k.cells := by
      intro i hi
      obtain ⟨cs', h1, h2⟩ := hcell i hi
      rw [hc] at h1
      obtain ⟨k, rfl⟩ := mark_cells h2
      exact ⟨k, h1⟩
    by_cases hz : len0 = 0
    · subst hz; exact ⟨[], .inl ⟨_, _, rfl, hm, rfl⟩⟩
    · have hx : ∃ b off, x = ⟨b, off, none⟩ := by
        obtain ⟨k, hk⟩ := hall 0 (by omega)
        have := (World.cells?_some hk).2.2 0 (by omega)
        rw [Nat.zero_mul] at this
        obtain ⟨b, off, s⟩ := x
        refine addr_plain (n := 0) (v := .int .i64 k.kind) (w := W) ?_
        simpa [Addr.add] using this
      obtain ⟨b, off, rfl⟩ := hx
      refine ⟨(List.range len0).map fun i => if hi : i < m then (hall i hi).choose else ⟨0, 0, 0⟩, .inr ⟨b, off, m, by simp, by simp; omega, by simpa using hl, hm, ?_, ?_⟩⟩
      · obtain ⟨k, hk⟩ := hall 0 (by omega)
        have := (World.cells?_some hk).2.2 0 (by omega)
        rw [Nat.zero_mul, add_plain, add_plain] at this
        exact World.block_lt_of_cell? W _ this
      · intro i k hk j u hu
        have hi : i < len0 := by have := (List.getElem?_eq_some_iff.1 hk).1; simpa using this
        rw [List.getElem?_map, List.getElem?_range hi] at hk
        simp only [Option.map_some, Option.some.injEq] at hk
        have him : i < m := by omega
        rw [dif_pos him] at hk
        have hs := (hall i him).choose_spec
        rw [hk] at hs
        have hj : j < 3 := (List.getElem?_eq_some_iff.1 hu).1
        have := (World.cells?_some hs).2.2 j hj
        rw [add_plain, add_plain, Nat.add_assoc] at this
        rw [this, hu]
end
end Go.Proofs.YtjddicoigbidlaaGreatDoor

set_option linter.unusedSimpArgs false
set_option linter.unusedVariables false
set_option maxRecDepth 100000
namespace Go.Proofs.YtjddicoigbidlaaGreatDoor
open Go.ChangeShapes Go.WideShapes Go.Deep Go.RowKit
section
variable {H : Type} {enc : TypeId × Value → H} {W : World} {r : Reach} {b0 base : Nat} {spare : Nat → Bool} {held : Bool} {v : Value} {d : DataW H} {p : List MemPlace}
theorem slice_told {t e : TypeId} (ht : Tryz.prog.underlying t = some (.slice e)) (hv : Value.okWide Tryz.prog W r b0 t v) (h : DataW.Trod enc Tryz.prog W base spare held t v d p) :
    NilOk v ∧ ∀ a len cap, v = .slice a len cap → (d = .nil ∧ len = 0) ∨ ∃ el sp, d = .slice el sp ∧ el.length = len := by
  obtain ⟨a0, len0, cap0, rfl⟩ := okWide_slice ht hv
  obtain ⟨fuel, hf⟩ := h
  rcases DataW.trod_slice ht hf with ⟨hcs, hd⟩ | ⟨a, len, cap, elems, rest, n, _, hcs, hd, _, _, _, hlen, _⟩
  · simp [Value.cells] at hcs
    obtain ⟨rfl, rfl, rfl⟩ := hcs
    refine ⟨fun l c h => (by cases h; exact ⟨rfl, rfl⟩), fun a l c h => .inl ?_⟩
    cases h
    exact ⟨congrArg Prod.fst hd, rfl⟩
  · simp [Value.cells] at hcs
    obtain ⟨rfl, rfl, rfl⟩ := hcs
    refine ⟨fun l c h => (by cases h), fun a l c h => .inr ?_⟩
    cases h
    exact ⟨_, _, congrArg Prod.fst hd, by simpa using hlen⟩
end
end Go.Proofs.YtjddicoigbidlaaGreatDoor

set_option linter.unusedSimpArgs false
set_option linter.unusedVariables false
namespace Go.Proofs.YtjddicoigbidlaaGreatDoor
open Go.RowKit
/-- A byte's cell. -/
def bb1 (x : UInt8) : List Value := [u8v x]
theorem bb1_len (x : UInt8) : (bb1 x).length = 1 := rfl
theorem bb1_flat (bs : List UInt8) : bs.flatMap bb1 = bs.map u8v := by induction bs with
  | nil => rfl
  | cons x xs ih => rw [List.flatMap_cons, ih]; rfl
theorem bb1_one (bs : List UInt8) : ∀ c ∈ bs.flatMap bb1, c.oneCell' = true := by rw [bb1_flat]; exact one_u8 bs
theorem rdLB {w : World} {v : Value} {bs : List UInt8} (h : RdB w v bs) : RdL 1 bb1 w v bs := by
  rcases h with ⟨a, c, h1, h2, h3⟩ | ⟨b, off, cap, h1, h0, h2, h3, h4, h5⟩
  · exact .inl ⟨a, c, h1, h2, h3⟩
  · refine .inr ⟨b, off, cap, h1, h0, h2, h3, h4, fun i x hx j u hu => ?_⟩
    cases j with
    | zero => rw [bb1] at hu; cases hu; rw [Nat.mul_one, Nat.add_zero]; exact h5 i x hx
    | succ j => rw [bb1] at hu; cases hu
/-- Behind how many they are. -/
def lenB (bs : List UInt8) : List UInt8 := num8 bs.length ++ bs
theorem wpList_append_anyAt {α : Type} {s : Nat} {f : α → List Value} (hf : ∀ x, (f x).length = s) (hs0 : 0 < s) {P : Program} {w : World} {ops : Array Oper} {rest : List Oper} {o : Oper} {a : Act} {Q : Exit → Act → World → Prop} (hgd : o.guard = none) (s1 x : Operand) (t : TypeId)
    (ho : o.op = .call { callee := .builtin .append, args := #[s1, x], argTypes := #[t, t] })
    (base : Nat) (e : TypeId) (i : TypeInfo) (z : Value) (bytes : Nat) (ht : P.underlying t = some (.slice e)) (hi : P.info? e = some i) (hz : i.zero = some z)
    (hsize : i.size = s) (hby : i.bytes = bytes) (hzs : z.cells.size = s)
    (v : Value) (n : Nat) (xs : List Value) (hs : a.eval s1 = v) (hown : w.ownsRow base e s v n xs)
    (u : Value) (ys : List α) (hx : a.eval x = u) (hr : RdL s f w u ys) (hn : NilOk u) (h1 : ∀ c ∈ ys.flatMap f, c.oneCell' = true)
    (h63 : n + ys.length ≤ maxLen) (hbytes : (n + ys.length) * bytes ≤ 140737488355328) (hbase : base ≤ w.heap.size)
    (h : ∀ v' w', w'.ownsRow base e s v' (n + ys.length) (xs ++ ys.flatMap f) → w.grownBy w' v.ownBlock → (v'.ownBlock = v.ownBlock ∨ v'.ownBlock = some w.heap.size) → wpList P ops Q rest (a.put o.dst v') w') : wpList P ops Q (o :: rest) a w := by
  obtain ⟨ad, cap, rfl, _, _⟩ := hr.form
  cases ad with
  | none =>
    obtain ⟨hl, hc⟩ := hn _ _ rfl
    have hy : ys = [] := List.length_eq_zero_iff.1 hl
    subst hy
    subst hc
    refine wpList_append_own_none hgd s1 x t ho base e i s ht hi v n xs hs hown hx (h v w (by simpa using hown) (World.grownBy.refl _ _) (.inl rfl))
  | some ad =>
    refine wpList_append_own_at w hgd s1 x t ho base e i z s bytes ht hi hz hsize hby hzs hs0 v n xs hs hown ad ys.length cap (ys.flatMap f) hx (flat_len hf ys) ?_ h1 h63 hbytes hbase (fun v' w' h2 h3 _ h4 => h v' w' h2 h3 h4)
    by_cases hy : ys = []
    · subst hy; intro j u hu; cases hu
    · obtain ⟨b, off, e⟩ := addr_some hr hy
      cases e
      exact hr.news hf hs0
set_option maxRecDepth 100000 in
set_option maxHeartbeats 2000000 in
theorem wBytes_good (b base : Nat) (v : Value) (bs : List UInt8) (bad : Bool) (vb : Value) (data : List UInt8) (w : World) (hW : WrAt w b base v bs bad) (hd : RdB w vb data) (hnil : NilOk vb) (hne : vb.ownBlock ≠ some b) (hne2 : ∀ k, vb.ownBlock = some k → v.ownBlock ≠ some k)
    (hbase : base ≤ w.heap.size) (hlen : bs.length + 8 + data.length ≤ 1099511627776) :
    Calls Tryz.prog 41 #[.pointer (some ⟨b, 0, none⟩), vb] w (WrDone w b base v (bs ++ lenB data) bad) := by
  obtain ⟨i0, hi, hz0, hz1, hz2⟩ := info_parts infoU8
  obtain ⟨a, cap, rfl, hlc, hcap⟩ := hd.form
  have hnum := wNum_good b base v bs bad data.length w hW (by omega) hbase (by omega)
  have hone := bb1_one data
  have Hone := Lib.hid hone
  have Hnum := Lib.hid hnum
  have Hnil := Lib.hid hnil
  obtain ⟨n, hn⟩ : ∃ n, data.length = n := ⟨_, rfl⟩
  have Hn := Lib.hid hn
  have hdl : data.length ≤ 1099511627776 := by omega
  clear hone hnum hnil hn
  go_enter Tryz.func41, Tryz.ntmps41
  go_wp2_with fail
  refine (Hnum.out).mono ?_; rintro e w1 ⟨v1, rfl, hW1, hK1, hat1⟩
  have hd1 : RdB w1 (.slice a data.length cap) data := hd.keeps hK1 (fun k hk h => by
    rcases h with h | h
    · exact hne (by rw [hk, h])
    · exact hne2 k hk h)
  have hsrc := rdLB hd1
  have hb1 := hW1.blk
  have hc0 : w1.cell? ⟨b, 0, none⟩ = some v1 := by rw [cell_of_row _ _ _ _ _ _ hb1]; rfl
  have hbS := (Array.getElem?_eq_some_iff.1 hb1).1
  have hll : (bs ++ num8 data.length).length = bs.length + 8 := by rw [List.length_append, num8_length]
  have hown1 := hW1.own
  obtain ⟨L, hL⟩ : ∃ L, (bs ++ num8 data.length).length = L := ⟨_, rfl⟩
  rw [hL] at hown1 hll
  have HL := Lib.hid hL
  have hm1 : L + data.length ≤ maxLen := by show _ ≤ 9223372036854775807; omega
  have hm2 : (L + data.length) * 1 ≤ 140737488355328 := by omega
  have hbs : base ≤ w1.heap.size := by have := hK1.size; omega
  have HW1 := Lib.hid hW1
  have HK1 := Lib.hid hK1
  have Hat1 := Lib.hid hat1
  clear hW1 hK1 hat1 hll hL
  generalize hcs : bs ++ num8 data.length = cs at hown1
  have Hcs := Lib.hid hcs
  clear hcs
  have Hhb1 := Lib.hid hb1
  go_wp2_with (at_builtin; go_must (refine wpList_append_anyAt bb1_len (by decide) rfl (.tmp 14) (.tmp 15) 23 rfl base 5 i0 (.int .u8 0) 1 Tryz.underlying23 hi hz0 hz1 hz2 rfl _ _ _ rfl hown1 _ data rfl hsrc Hnil.out Hone.out hm1 hm2 hbs ?_); rintro v2 w2 hown2 hg2' hat2'; have hg2 : w1.grownBy w2 v1.ownBlock := hg2'; have hat2 : v2.ownBlock = v1.ownBlock ∨ v2.ownBlock = some w1.heap.size := hat2'; clear hg2' hat2'; obtain ⟨a2, cap2, hv2⟩ := own_form0 hown2; subst hv2; have hblk2 : w2.heap[b]? = some (.cells #[v1, .bool bad] 70 (0, 0)) := (Keeps.grown hg2).heap (k := b) Hhb1.out HW1.out.ne; have hc2 : w2.cell? ⟨b, 0, none⟩ = some v1 := (by rw [cell_of_row _ _ _ _ _ _ hblk2]; rfl); have hf2 : w2.frozen? ⟨b, 0, none⟩ = false := (by simp [World.frozen?, hblk2]))
  go_end0
  have hne' : (Value.slice a2 (L + data.length) cap2).ownBlock ≠ some b := by
    rcases hat2 with h | h
    · rw [h]; exact HW1.out.ne
    · rw [h]; intro e; have := Option.some.inj e; omega
  have hK2 : Keeps (fun k => k = b ∨ v.ownBlock = some k) w w2 := HK1.out.go (Keeps.grown hg2) (by
    intro k h
    rcases Hat1.out with h1 | ⟨g, h1, h2⟩
    · exact .inl (.inr (by rw [← h1]; exact h))
    · rw [h1] at h; cases h; exact .inr h2)
  have hK3 := Keeps.setCell (F := fun k => k = b ∨ v.ownBlock = some k) w2 ⟨b, 0, none⟩ (.slice a2 (L + data.length) cap2) (.inl rfl)
  refine ⟨_, rfl, ⟨heap_setCell_same _ _ 0 _ _ _ hblk2, ?_, hne'⟩, hK2.trans hK3, ?_⟩
  · have h := own_keeps hown2 (Keeps.setCell (F := fun k => k = b) w2 ⟨b, 0, none⟩ (.slice a2 (L + data.length) cap2) rfl) (fun k hk e => hne' (by rw [hk, e]))
    rw [bb1_flat, ← List.map_append, ← Hcs.out] at h
    have e : (bs ++ lenB data).length = L + data.length := by rw [lenB, ← List.append_assoc, List.length_append, HL.out]
    rw [e, lenB, ← List.append_assoc]
    exact h
  · rcases hat2 with h | h
    · rw [h]
      rcases Hat1.out with h1 | ⟨g, h1, h2⟩
      · exact .inl h1
      · exact .inr ⟨g, h1, h2⟩
    · exact .inr ⟨_, h, HK1.out.size⟩
end Go.Proofs.YtjddicoigbidlaaGreatDoor

set_option linter.unusedSimpArgs false
set_option linter.unusedVariables false
namespace Go.Proofs.YtjddicoigbidlaaGreatDoor
open Go.RowKit
set_option maxRecDepth 100000 in
set_option maxHeartbeats 1000000 in
theorem envSum_calls (v : Value) (bs : List UInt8) (w : World) (hv : RdB w v bs) :
    Calls Tryz.prog 43 #[v] w (RowDone w (be4 (PbCrc.sum bs))) := by
  go_enter Tryz.func43, Tryz.ntmps43
  go_wp2_with fail
  refine (crcSum_calls _ _ _ hv).mono ?_; rintro e w1 ⟨rfl, hb1⟩
  obtain ⟨c, hcs⟩ : ∃ c, PbCrc.sum bs = c := ⟨_, rfl⟩
  rw [hcs]
  have hlt := c.isLt
  have hc0 : (0 : Int) ≤ (c.toNat : Int) := by omega
  have u24 : IntKind.u8.wrap ((c.toNat : Int) / 16777216) = ((UInt8.ofNat (c.toNat / 2 ^ 24)).toNat : Int) := wrap_u8_shr c.toNat 24
  have u16 : IntKind.u8.wrap ((c.toNat : Int) / 65536) = ((UInt8.ofNat (c.toNat / 2 ^ 16)).toNat : Int) := wrap_u8_shr c.toNat 16
  have u8' : IntKind.u8.wrap ((c.toNat : Int) / 256) = ((UInt8.ofNat (c.toNat / 2 ^ 8)).toNat : Int) := wrap_u8_shr c.toNat 8
  have u0 : IntKind.u8.wrap (c.toNat : Int) = ((UInt8.ofNat c.toNat).toNat : Int) := wrap_u8_nat c.toNat
  have hfin : be4 (PbCrc.sum bs) = [UInt8.ofNat (c.toNat / 2 ^ 24), UInt8.ofNat (c.toNat / 2 ^ 16), UInt8.ofNat (c.toNat / 2 ^ 8), UInt8.ofNat c.toNat] := by rw [hcs]; rfl
  generalize UInt8.ofNat (c.toNat / 2 ^ 24) = b0 at u24 hfin
  generalize UInt8.ofNat (c.toNat / 2 ^ 16) = b1 at u16 hfin
  generalize UInt8.ofNat (c.toNat / 2 ^ 8) = b2 at u8' hfin
  generalize UInt8.ofNat c.toNat = b3 at u0 hfin
  have Hfin := Lib.hid hfin
  clear hfin hcs
  go_wp2
  go_ret
  refine ⟨_, rfl, by rw [Hfin.out]; exact own_mono (World.ownsRow_lit w1 #[u8v b0, u8v b1, u8v b2, u8v b3] 4 (Nat.le_refl _) (by decide) rfl) hb1.size, hb1.alloc hb1.size _⟩
set_option maxRecDepth 100000 in
set_option maxHeartbeats 1000000 in
theorem refBytes_calls (vb : Value) (data : List UInt8) (w : World) (hd : RdB w vb data) (hnil : NilOk vb) (hlen : data.length ≤ 1099511627776) :
    Calls Tryz.prog 56 #[vb] w (RowDone w (lenB data)) := by
  obtain ⟨i0, hi, hz0, hz1, hz2⟩ := info_parts infoU8
  obtain ⟨a, cap, rfl, hlc, hcap⟩ := hd.form
  have hnum := refNum8 data.length (by omega) w
  have hone := bb1_one data
  have Hone := Lib.hid hone
  have Hnum := Lib.hid hnum
  have Hnil := Lib.hid hnil
  clear hone hnum hnil
  go_enter Tryz.func56, Tryz.ntmps56
  go_wp2_with fail
  refine (Hnum.out).mono ?_; rintro e w1 ⟨g, cp, rfl, hown1, hb1, hg1⟩
  have hsrc := rdLB (hd.below (Nat.le_refl _) hb1)
  have hm1 : 8 + data.length ≤ maxLen := by show _ ≤ 9223372036854775807; omega
  have hm2 : (8 + data.length) * 1 ≤ 140737488355328 := by omega
  have hbs := hb1.size
  go_wp2_with (at_builtin; go_must (refine wpList_append_any bb1_len (by decide) rfl (.tmp 5) (.tmp 6) 23 rfl w.heap.size 5 i0 (.int .u8 0) 1 Tryz.underlying23 hi hz0 hz1 hz2 rfl _ _ _ rfl hown1 _ data rfl hsrc Hnil.out Hone.out hm1 hm2 hbs ?_); rintro v2 w2 hown2 hg2 _)
  go_ret
  refine ⟨v2, rfl, ?_, Below.grown hb1 hg2 hbs (fun k hk => own_base hown1 k hk)⟩
  rw [bb1_flat, ← List.map_append] at hown2
  have e : (lenB data).length = 8 + data.length := by rw [lenB, List.length_append, num8_length]
  rw [e]; exact hown2
end Go.Proofs.YtjddicoigbidlaaGreatDoor

set_option linter.unusedSimpArgs false
set_option linter.unusedVariables false
namespace Go.Proofs.YtjddicoigbidlaaGreatDoor
open Go.RowKit
theorem nilOk_own {w : World} {base : Nat} {e : TypeId} {size : Nat} {v : Value} {n : Nat} {xs : List Value} (h : w.ownsRow base e size v n xs) : NilOk v := by
  obtain ⟨_, ⟨h2, h3⟩ | ⟨g, cap, cur, hv', _⟩⟩ := h
  · intro l c e; rw [e] at h2; cases h2; exact ⟨rfl, rfl⟩
  · intro l c e; rw [e] at hv'; cases hv'
/-- What is summed of a mail. -/
def MailD.inner (m : MailD) : List UInt8 :=
  ((((num8 m.id.toNat ++ num8 m.parent.toNat ++ num8 m.born.toNat) ++ lenB m.frm) ++ num8 m.rcpts.length) ++ m.rcpts.flatMap lenB) ++ lenB m.body
/-- A mail's record. -/
def MailD.record (m : MailD) : List UInt8 := lenB m.inner ++ be4 (PbCrc.sum m.inner)
theorem lenB_length (l : List UInt8) : (lenB l).length = 8 + l.length := by rw [lenB, List.length_append, num8_length]
theorem flat_lenB_le (ls : List (List UInt8)) (k : Nat) (h : ∀ l ∈ ls, l.length ≤ k) : (ls.flatMap lenB).length ≤ ls.length * (8 + k) := by
  induction ls with
  | nil => simp
  | cons x xs ih =>
    rw [List.flatMap_cons, List.length_append, lenB_length, List.length_cons, Nat.succ_mul]
    have := ih (fun l hl => h l (List.mem_cons_of_mem _ hl))
    have := h x List.mem_cons_self
    omega
/-- A text turned to bytes: a row that is new. -/
theorem conv_text (l : List UInt8) (hs : l.length ≤ 4294967280) (w : World) :
    ∃ C W, (convert 9 23 (.string (strL l))).run Tryz.prog w = .ok (.slice (some ⟨w.heap.size, 0, none⟩) l.length C) W ∧ RdB W (.slice (some ⟨w.heap.size, 0, none⟩) l.length C) l ∧ Below w.heap.size w W := by
  have h := run_bytes_of_string (P := Tryz.prog) w 9 23 5 (strL l) Tryz.underlying9 Tryz.underlying23 Tryz.underlying5
  rw [strL_size] at h
  have hcm : grownCap w l.length 0 5 ≤ 9223372036854775807 := grownCap_le_maxLen w l.length 0 5 (by show _ ≤ 9223372036854775807; omega)
  refine ⟨_, _, h, ?_, (Below.refl _ _).drew.alloc (Nat.le_refl _) _⟩
  by_cases hl : l = []
  · subst hl; exact .inl ⟨_, _, rfl, hcm, rfl⟩
  · refine .inr ⟨_, 0, _, rfl, hl, grownCap_ge _ _ _ _, hcm, by simp [World.alloc], fun j x hx => ?_⟩
    have hi := (List.getElem?_eq_some_iff.1 hx).1
    have hbl : (w.drew.alloc (.cells (bytesRow (strL l) (grownCap w l.length 0 5)) 5 ((bytesRow (strL l) (grownCap w l.length 0 5)).size, (bytesRow (strL l) (grownCap w l.length 0 5)).size + 1))).heap[w.heap.size]? = some (.cells (bytesRow (strL l) (grownCap w l.length 0 5)) 5 ((bytesRow (strL l) (grownCap w l.length 0 5)).size, (bytesRow (strL l) (grownCap w l.length 0 5)).size + 1)) := heap_alloc_new w.drew _
    rw [cell_of_row _ _ _ _ _ _ hbl]
    have h2 := bytesRow_at (strL l) (grownCap w l.length 0 5) j (by simp [strL]; exact hi)
    rw [Nat.zero_add, h2]
    have : (strL l).data[j]'(by simp [strL]; exact hi) = x := by
      have := (List.getElem?_eq_some_iff.1 hx).2
      simp [strL, this]
    rw [this]
/-- A Writer that is not bad, behind a beginning. -/
def WrOn (W0 : World) (b : Nat) (w : World) (bs : List UInt8) : Prop := ∃ v, WrAt w b W0.heap.size v bs false ∧ Keeps (fun k => k = b) W0 w
theorem WrOn.start {W0 : World} {b : Nat} (h : W0.heap[b]? = some (.cells #[.slice none 0 0, .bool false] 70 (0, 0))) : WrOn W0 b W0 [] :=
  ⟨.slice none 0 0, ⟨h, World.ownsRow_nil _ _ _ _, by simp [Value.ownBlock]⟩, Keeps.refl _ _⟩
theorem WrOn.go {W0 : World} {b : Nat} {w w' : World} {bs : List UInt8} (h : WrOn W0 b w bs) (hb : Below w.heap.size w w') : WrOn W0 b w' bs := by
  obtain ⟨v, hW, hK⟩ := h
  have hbS := (Array.getElem?_eq_some_iff.1 hW.blk).1
  exact ⟨v, ⟨(hb.block _ hbS).trans hW.blk, own_below hW.own hb (Nat.le_refl _), hW.ne⟩, hK.trans (Keeps.ofBelow hb)⟩
theorem WrOn.of {W0 : World} {b : Nat} {w : World} {v : Value} {bs cs : List UInt8} (hW : WrAt w b W0.heap.size v bs false) (hK : Keeps (fun k => k = b) W0 w) {e : Ending} {w' : World} (h : WrDone w b W0.heap.size v cs false e w') :
    e = .returned (.tuple #[]) ∧ WrOn W0 b w' cs := by
  obtain ⟨v', rfl, hW', hK', _⟩ := h
  refine ⟨rfl, v', hW', hK.go hK' (fun k hk => ?_)⟩
  rcases hk with h | h
  · exact .inl h
  · exact .inr (own_base hW.own k h)
theorem WrOn.num {W0 : World} {b : Nat} {w : World} {bs : List UInt8} (h : WrOn W0 b w bs) (n : Nat) (hn : n ≤ 4611686018427387904) (hl : bs.length ≤ 1000000000) :
    Calls Tryz.prog 40 #[.pointer (some ⟨b, 0, none⟩), .int .i64 n] w fun e w' => e = .returned (.tuple #[]) ∧ WrOn W0 b w' (bs ++ num8 n) := by
  obtain ⟨v, hW, hK⟩ := h
  exact (wNum_good b W0.heap.size v bs false n w hW hn hK.size (by omega)).mono fun e w' h => WrOn.of hW hK h
theorem WrOn.bytes {W0 : World} {b : Nat} {w w2 : World} {bs : List UInt8} (h : WrOn W0 b w bs) (hB : Below w.heap.size w w2) {vb : Value} {data : List UInt8} (hd : RdB w2 vb data) (hnil : NilOk vb)
    (hk : ∀ k, vb.ownBlock = some k → k ≠ b ∧ (k < W0.heap.size ∨ w.heap.size ≤ k)) (hl : bs.length ≤ 1000000000) (hl2 : data.length ≤ 1000000000) :
    Calls Tryz.prog 41 #[.pointer (some ⟨b, 0, none⟩), vb] w2 fun e w' => e = .returned (.tuple #[]) ∧ WrOn W0 b w' (bs ++ lenB data) := by
  obtain ⟨v0, hW0, hK0⟩ := id h
  obtain ⟨v, hW, hK⟩ : ∃ v, WrAt w2 b W0.heap.size v bs false ∧ Keeps (fun k => k = b) W0 w2 ∧ ∀ k, v.ownBlock = some k → k < w.heap.size := by
    have hbS := (Array.getElem?_eq_some_iff.1 hW0.blk).1
    exact ⟨v0, ⟨(hB.block _ hbS).trans hW0.blk, own_below hW0.own hB (Nat.le_refl _), hW0.ne⟩, hK0.trans (Keeps.ofBelow hB), fun k hk => (hW0.own.lt k hk).2⟩
  obtain ⟨hK, hlt⟩ := hK
  refine (wBytes_good b W0.heap.size v bs false vb data w2 hW hd hnil (fun e => (hk b e).1 rfl) (fun k hk1 hk2 => ?_) hK.size (by omega)).mono fun e w' h => WrOn.of hW hK h
  have h1 := own_base hW.own k hk2
  have h2 := hlt k hk2
  rcases (hk k hk1).2 with h | h <;> omega
theorem WrOn.out {W0 : World} {b : Nat} {w : World} {bs : List UInt8} (h : WrOn W0 b w bs) (hl : bs.length ≤ 1000000000) : Calls Tryz.prog 42 #[.pointer (some ⟨b, 0, none⟩)] w (OutDone w bs) := by
  obtain ⟨v, hW, hK⟩ := h
  exact wOut_calls b W0.heap.size v bs w hW (by omega)
theorem WrOn.cell {W0 : World} {b : Nat} {w : World} {bs : List UInt8} (h : WrOn W0 b w bs) {k o : Nat} {v : Value} (hk : k ≠ b) (hc : W0.cell? ⟨k, o, none⟩ = some v) : w.cell? ⟨k, o, none⟩ = some v := by
  obtain ⟨v, hW, hK⟩ := h
  exact hK.cell hk hc
theorem WrOn.below {W0 : World} {b B : Nat} {w : World} {bs : List UInt8} (h : WrOn W0 b w bs) (hb : B ≤ b) (hB : B ≤ W0.heap.size) : Below B W0 w := by
  obtain ⟨v, hW, hK⟩ := h
  exact hK.below (fun k hk => by omega) hB
theorem WrOn.size {W0 : World} {b : Nat} {w : World} {bs : List UInt8} (h : WrOn W0 b w bs) : W0.heap.size ≤ w.heap.size := by
  obtain ⟨v, hW, hK⟩ := h
  exact hK.size
theorem WrOn.rdb {W0 : World} {b : Nat} {w : World} {bs : List UInt8} (h : WrOn W0 b w bs) {v : Value} {xs : List UInt8} (hr : RdB W0 v xs) (hv : v.ownBlock ≠ some b) : RdB w v xs := by
  obtain ⟨u, hW, hK⟩ := h
  exact hr.keeps hK (fun k hk e => hv (by rw [hk, e]))
theorem WrOn.rds {W0 : World} {b : Nat} {w : World} {bs : List UInt8} (h : WrOn W0 b w bs) {v : Value} {xs : List (List UInt8)} (hr : RdS W0 v xs) (hv : v.ownBlock ≠ some b) : RdS w v xs := by
  obtain ⟨u, hW, hK⟩ := h
  exact RdL.keeps hr hK (fun k o l c hk e => hv (by rw [hk, e]; rfl))
end Go.Proofs.YtjddicoigbidlaaGreatDoor

set_option linter.unusedSimpArgs false
set_option linter.unusedVariables false
namespace Go.Proofs.YtjddicoigbidlaaGreatDoor
open Go.RowKit
theorem good_iff (m : MailD) : m.good = true ↔ (1 ≤ m.id ∧ m.id ≤ 999999999) ∧ (0 ≤ m.parent ∧ m.parent ≤ m.id - 1) ∧ (0 ≤ m.born ∧ m.born ≤ 1099511627776) ∧ (1 ≤ m.rcpts.length ∧ m.rcpts.length ≤ 8) ∧ m.body.length ≤ 8192 ∧ bodyB m.body = true ∧ (m.frm.length = 0 ∨ boxB m.frm = true) ∧ m.rcpts.all boxB = true := by
  unfold MailD.good
  simp only [Bool.and_eq_true, Bool.or_eq_true, decide_eq_true_eq]
  constructor
  · rintro ⟨a, b, c, d, e⟩; exact ⟨a, b, c, by omega, e⟩
  · rintro ⟨a, b, c, d, e⟩; exact ⟨a, b, c, by omega, e⟩
def MailD.small (m : MailD) : Prop := m.frm.length ≤ 100000 ∧ ∀ l ∈ m.rcpts, l.length ≤ 100000
theorem inner_small (m : MailD) (h : m.small) (hr : m.rcpts.length ≤ 8) (hb : m.body.length ≤ 8192) : m.inner.length ≤ 1000000 := by
  have := flat_lenB_le m.rcpts 100000 h.2
  have h2 := h.1
  have h3 : m.rcpts.length * (8 + 100000) ≤ 8 * (8 + 100000) := Nat.mul_le_mul_right _ hr
  unfold MailD.inner
  simp only [List.length_append, num8_length, lenB_length]
  omega
def EncBad (e : Ending) : Prop := e = .returned (.tuple #[.slice none 0 0, .bool false])
set_option maxRecDepth 100000 in
set_option maxHeartbeats 8000000 in
theorem encode_bad (m : MailD) (vr vb : Value) (w : World) (hr : RdS w vr m.rcpts) (hb : RdB w vb m.body) (hsr : ∀ l ∈ m.rcpts, l.length < 4294967281) (hsf : m.frm.length < 4294967281) (hmax : MaxOk w) (hg : m.good = false) :
    Calls Tryz.prog 14 #[mailVal m vr vb] w fun e w' => EncBad e ∧ Below w.heap.size w w' := by
  obtain ⟨W, hW⟩ : ∃ W, w.alloc (.cells #[.int .i64 m.id, .int .i64 m.parent, .int .i64 m.born, .string (strL m.frm), vr, vb] 25) = W := ⟨_, rfl⟩
  have hbW : Below w.heap.size w W := by rw [← hW]; exact (Below.refl _ _).alloc (Nat.le_refl _) _
  have hgd := envGood_calls m vr vb W (hr.below (Nat.le_refl _) hbW) (hb.below (Nat.le_refl _) hbW) hsr hsf (hmax.below hbW)
  rw [hg] at hgd
  have Hgd := Lib.hid hgd
  clear hgd hg hsr hsf hmax hr hb
  subst hW
  obtain ⟨id, parent, born, frm, rcpts, body⟩ := m
  unfold mailVal at Hgd ⊢
  simp only at Hgd ⊢
  generalize strL frm = sf at *
  go_enter Tryz.func14, Tryz.ntmps14
  go_wp2_with fail
  refine (Hgd.out).mono ?_; rintro e w1 ⟨rfl, hb1⟩
  have hbw1 := hbW.trans (hb1.mono hbW.size)
  go_wp2
  go_ret2
  exact ⟨rfl, hbw1⟩
def EnvEncDone (w : World) (bs : List UInt8) (e : Ending) (w' : World) : Prop :=
  ∃ v', e = .returned (.tuple #[v', .bool true]) ∧ w'.ownsRow w.heap.size 5 1 v' bs.length (bs.map u8v) ∧ Below w.heap.size w w'
set_option maxRecDepth 100000 in
set_option maxHeartbeats 16000000 in
theorem encode_good (m : MailD) (vr vb : Value) (w : World) (hr : RdS w vr m.rcpts) (hb : RdB w vb m.body) (hnb : NilOk vb) (hsm : m.small) (hmax : MaxOk w) (hg : m.good = true) (hor : ∀ k, vr.ownBlock = some k → k < w.heap.size) (hob : ∀ k, vb.ownBlock = some k → k < w.heap.size) :
    Calls Tryz.prog 14 #[mailVal m vr vb] w (EnvEncDone w m.record) := by
  obtain ⟨W, hW⟩ : ∃ W, w.alloc (.cells #[.int .i64 m.id, .int .i64 m.parent, .int .i64 m.born, .string (strL m.frm), vr, vb] 25) = W := ⟨_, rfl⟩
  have hbW : Below w.heap.size w W := by rw [← hW]; exact (Below.refl _ _).alloc (Nat.le_refl _) _
  have hgd := envGood_calls m vr vb W (hr.below (Nat.le_refl _) hbW) (hb.below (Nat.le_refl _) hbW) (fun l h => by have := hsm.2 l h; omega) (by have := hsm.1; omega) (hmax.below hbW)
  rw [hg] at hgd
  have hgi := (good_iff m).1 hg
  have hin := inner_small m hsm hgi.2.2.2.1.2 hgi.2.2.2.2.1
  have hrec : m.record = lenB m.inner ++ be4 (PbCrc.sum m.inner) := rfl
  have Hgd := Lib.hid hgd
  clear hgd hg hmax
  obtain ⟨id, parent, born, frm, rcpts, body⟩ := m
  unfold MailD.small at hsm
  unfold mailVal at Hgd ⊢
  simp only at Hgd hgi hr hb hsm hW ⊢
  obtain ⟨⟨h1a, h1b⟩, ⟨h2a, h2b⟩, ⟨h3a, h3b⟩, ⟨h4a, h4b⟩, h5, -⟩ := hgi
  obtain ⟨n0, rfl⟩ := Int.eq_ofNat_of_zero_le (show 0 ≤ id by omega)
  obtain ⟨n1, rfl⟩ := Int.eq_ofNat_of_zero_le h2a
  obtain ⟨n2, rfl⟩ := Int.eq_ofNat_of_zero_le h3a
  obtain ⟨bs, hbs⟩ : ∃ bs, bs = (MailD.mk (n0 : Int) n1 n2 frm rcpts body).inner := ⟨_, rfl⟩
  rw [← hbs] at hin hrec
  rw [hrec]
  have hbs' : bs = ((((num8 n0 ++ num8 n1 ++ num8 n2) ++ lenB frm) ++ num8 rcpts.length) ++ rcpts.flatMap lenB) ++ lenB body := hbs
  clear hbs hrec
  have hlen := fun (j : Nat) => flat_lenB_le (rcpts.take j) 100000 (fun l h => hsm.2 l (List.mem_of_mem_take h))
  obtain ⟨hs1, hs2⟩ := hsm
  obtain ⟨ar, capr, rfl, hlr, hcr⟩ := hr.form
  obtain ⟨ab, capb, rfl, hlb, hcb⟩ := hb.form
  have hblkM : W.heap[w.heap.size]? = some (.cells #[.int .i64 n0, .int .i64 n1, .int .i64 n2, .string (strL frm), .slice ar rcpts.length capr, .slice ab body.length capb] 25 (0, 0)) := by rw [← hW]; exact heap_alloc_new w _
  have hrW := hr.below (Nat.le_refl _) hbW
  have hbdW := hb.below (Nat.le_refl _) hbW
  have Hbs := Lib.hid hbs'
  have Hr := Lib.hid hrW
  have Hb := Lib.hid hbdW
  have HblkM := Lib.hid hblkM
  have Hor := Lib.hid hor
  have Hob := Lib.hid hob
  have Hnb := Lib.hid hnb
  have Hlen := Lib.hid hlen
  have Hs2 := Lib.hid hs2
  have hsW : W.heap.size = w.heap.size + 1 := by rw [← hW]; simp
  have HsW := Lib.hid hsW
  clear hbs' hr hb hrW hbdW hblkM hor hob hnb hlen hs2 hsW
  subst hW
  go_enter Tryz.func14, Tryz.ntmps14
  go_wp2_with fail
  refine (Hgd.out).mono ?_; rintro e w1 ⟨rfl, hb1⟩
  have hbw1 := hbW.trans (hb1.mono hbW.size)
  have hM : w.heap.size < w1.heap.size := by have := hb1.size; have := HsW.out; omega
  have hblk1 := (hb1.block _ (by rw [HsW.out]; omega)).trans HblkM.out
  have hcM : ∀ (j : Nat) v, (#[Value.int .i64 n0, .int .i64 n1, .int .i64 n2, .string (strL frm), .slice ar rcpts.length capr, .slice ab body.length capb] : Array Value)[j]? = some v → w1.cell? ⟨w.heap.size, j, none⟩ = some v := by
    intro j v hv; rw [cell_of_row _ _ _ _ _ _ hblk1]; exact hv
  obtain ⟨W0, hW0⟩ : ∃ W0, (w1.alloc (.cells #[.slice none 0 0, .bool false] 70)).alloc (.cells #[.int .i64 n0, .int .i64 n1, .int .i64 n2] 3) = W0 := ⟨_, rfl⟩
  have hb10 : Below w1.heap.size w1 W0 := by rw [← hW0]; exact ((Below.refl _ _).alloc (Nat.le_refl _) _).alloc (by simp) _
  have hs0 : W0.heap.size = w1.heap.size + 2 := by rw [← hW0]; simp
  have hwr0 : WrOn W0 w1.heap.size W0 [] := WrOn.start (by rw [← hW0]; exact heap_alloc2_old _ _ _)
  have hi3 : W0.heap[w1.heap.size + 1]? = some (.cells #[.int .i64 n0, .int .i64 n1, .int .i64 n2] 3 (0, 0)) := by rw [← hW0]; exact heap_alloc2_new _ _ _
  have hcI : ∀ (j : Nat) v, (#[Value.int .i64 n0, .int .i64 n1, .int .i64 n2] : Array Value)[j]? = some v → W0.cell? ⟨w1.heap.size + 1, j, none⟩ = some v := by
    intro j v hv; rw [cell_of_row _ _ _ _ _ _ hi3]; exact hv
  have hcM0 : ∀ (j : Nat) v, (#[Value.int .i64 n0, .int .i64 n1, .int .i64 n2, .string (strL frm), .slice ar rcpts.length capr, .slice ab body.length capb] : Array Value)[j]? = some v → W0.cell? ⟨w.heap.size, j, none⟩ = some v :=
    fun j v hv => (hb10.cell (p := ⟨w.heap.size, j, none⟩) hM).trans (hcM j v hv)
  have m0 := hcM 0 _ rfl
  have m1 := hcM 1 _ rfl
  have m2 := hcM 2 _ rfl
  have hr0 := (Hr.out.below (Nat.le_refl _) hb1).below (Nat.le_refl _) hb10
  have hbd0 := (Hb.out.below (Nat.le_refl _) hb1).below (Nat.le_refl _) hb10
  have HcM0 := Lib.hid hcM0
  have HcI := Lib.hid hcI
  have Hr0 := Lib.hid hr0
  have Hbd0 := Lib.hid hbd0
  have Hwr0 := Lib.hid hwr0
  clear hcM0 hcI hr0 hbd0 hwr0 hi3 hcM hblk1
  subst hW0
  go_wp2
  generalize hW0 : (w1.alloc (.cells #[.slice none 0 0, .bool false] 70)).alloc (.cells #[.int .i64 n0, .int .i64 n1, .int .i64 n2] 3) = W0 at *
  have hne1 : w1.heap.size + 1 ≠ w1.heap.size := by omega
  have hneM : w.heap.size ≠ w1.heap.size := by omega
  have hnes : (Value.slice ar rcpts.length capr).ownBlock ≠ some w1.heap.size := fun e => by have := Hor.out _ e; omega
  have hneb : (Value.slice ab body.length capb).ownBlock ≠ some w1.heap.size := fun e => by have := Hob.out _ e; omega
  have Hneb := Lib.hid hneb
  have Hnes := Lib.hid hnes
  clear hnes hneb m0 m1 m2 hb1 Hgd Hr Hb HblkM HsW hW0
  go_loopw [26] (fun i wr => ∃ j : Nat, j ≤ 3 ∧ i = .int .i64 j ∧ WrOn W0 w1.heap.size wr (((num8 n0 ++ num8 n1) ++ num8 n2).take (8 * j))) (fun i _ => 3 - (intOf i).toNat)
  case atStart => exact ⟨0, Nat.zero_le _, rfl, by simpa using Hwr0.out⟩
  case round =>
    obtain ⟨j, hj, rfl, hon⟩ := hrel
    by_cases hlt : j < 3
    · obtain ⟨n, hn, hcn, hnx⟩ : ∃ n : Nat, n ≤ 4611686018427387904 ∧ wr.cell? ⟨w1.heap.size + 1, j, none⟩ = some (.int .i64 n) ∧ ((num8 n0 ++ num8 n1) ++ num8 n2).take (8 * (j + 1)) = ((num8 n0 ++ num8 n1) ++ num8 n2).take (8 * j) ++ num8 n := by
        have e0 := num8_length n0
        have e1 := num8_length n1
        have e2 := num8_length n2
        match j, hlt with
        | 0, _ => exact ⟨n0, by omega, hon.cell hne1 (HcI.out 0 _ rfl), by rw [List.append_assoc, List.take_append_of_le_length (by omega), List.take_of_length_le (by omega)]; simp⟩
        | 1, _ => exact ⟨n1, by omega, hon.cell hne1 (HcI.out 1 _ rfl), by rw [List.take_append_of_le_length (by simp; omega), List.take_of_length_le (by simp; omega), List.take_append_of_le_length (by simp; omega), List.take_append_of_le_length (by omega), List.take_of_length_le (by omega)]⟩
        | 2, _ => exact ⟨n2, by omega, hon.cell hne1 (HcI.out 2 _ rfl), by rw [List.take_of_length_le (by simp; omega), List.take_append_of_le_length (by simp; omega), List.take_of_length_le (by simp; omega)]⟩
      have hcall := hon.num n hn (by simp; omega)
      rw [← hnx] at hcall
      have Hcall := Lib.hid hcall
      have hj0 : (0 : Int) ≤ (j : Int) := by omega
      have hj1 : (j : Int) < 3 := by omega
      clear hcall hnx hn hon
      go_wp2_with fail
      refine (Hcall.out).mono ?_; rintro e w2 ⟨rfl, hon2⟩
      have Hon2 := Lib.hid hon2
      clear hon2
      go_wp2
      go_roundw
      case rel => exact ⟨j + 1, by omega, by simp, Hon2.out⟩
      case measure => simp [intOf] <;> omega
    · have hje : j = 3 := by omega
      subst hje
      rw [List.take_of_length_le (by simp [num8_length])] at hon
      generalize hp3 : (num8 n0 ++ num8 n1) ++ num8 n2 = p3 at hon
      have hl3 : p3.length = 24 := by rw [← hp3]; simp [num8_length]
      have Hp3 := Lib.hid hp3
      clear hp3
      have c3 := hon.cell hneM (HcM0.out 3 _ rfl)
      obtain ⟨C, W2, hrun, hrd, hb2⟩ := conv_text frm (by omega) wr
      have hcall := hon.bytes hb2 hrd (fun l c e => by cases e) (fun k hk => by cases hk; have := hon.size; exact ⟨by show wr.heap.size ≠ _; omega, .inr (Nat.le_refl _)⟩) (by omega) (by omega)
      generalize strL frm = sf at c3 hrun
      have Hcall := Lib.hid hcall
      clear hcall hon hrd hb2
      go_wp2_with fail
      refine (Hcall.out).mono ?_; rintro e w2 ⟨rfl, hon2⟩
      generalize hp4 : p3 ++ lenB frm = p4 at hon2
      have hl4 : p4.length ≤ 24 + 8 + 100000 := by rw [← hp4, List.length_append, lenB_length]; omega
      have Hp4 := Lib.hid hp4
      clear hp4
      have c4 := hon2.cell hneM (HcM0.out 4 _ rfl)
      have hcall2 := hon2.num rcpts.length (by omega) (by omega)
      have Hcall2 := Lib.hid hcall2
      clear hcall2 hon2
      go_wp2_with fail
      refine (Hcall2.out).mono ?_; rintro e w3 ⟨rfl, hon3⟩
      generalize hp5 : p4 ++ num8 rcpts.length = p5 at hon3
      have hl5 : p5.length ≤ 24 + 8 + 100000 + 8 := by rw [← hp5, List.length_append, num8_length]; omega
      have Hp5 := Lib.hid hp5
      clear hp5
      have c4' := hon3.cell hneM (HcM0.out 4 _ rfl)
      have Hon3 := Lib.hid hon3
      clear hon3
      go_wp2
      go_loopw [47] (fun i wr => ∃ j : Nat, j ≤ rcpts.length ∧ i = .int .i64 j ∧ WrOn W0 w1.heap.size wr (p5 ++ (rcpts.take j).flatMap lenB)) (fun i _ => rcpts.length - (intOf i).toNat)
      case atStart => exact ⟨0, Nat.zero_le _, rfl, by simpa using Hon3.out⟩
      case round =>
        obtain ⟨j, hj, rfl, hon⟩ := hrel
        by_cases hlt : j < rcpts.length
        · obtain ⟨x, hx⟩ : ∃ x, rcpts[j]? = some x := ⟨_, List.getElem?_eq_getElem hlt⟩
          obtain ⟨b1, o1, k1, e1, _, p1⟩ := RdS.at (hon.rds Hr0.out Hnes.out) hx
          cases e1
          have hxl := Hs2.out x (List.mem_of_getElem? hx)
          have hlj := Hlen.out j
          have hlj2 : (rcpts.take j).length * (8 + 100000) ≤ 8 * (8 + 100000) := Nat.mul_le_mul_right _ (by rw [List.length_take]; omega)
          obtain ⟨C, W2, hrun, hrd, hb2⟩ := conv_text x (by omega) wr
          have hcall := hon.bytes hb2 hrd (fun l c e => by cases e) (fun k hk => by cases hk; have := hon.size; exact ⟨by show wr.heap.size ≠ _; omega, .inr (Nat.le_refl _)⟩) (by rw [List.length_append]; omega) (by omega)
          have hnx : p5 ++ (rcpts.take (j + 1)).flatMap lenB = (p5 ++ (rcpts.take j).flatMap lenB) ++ lenB x := by rw [take_snoc hx, List.flatMap_append, List.append_assoc]; simp
          rw [← hnx] at hcall
          generalize strL x = sx at p1 hrun
          have Hcall := Lib.hid hcall
          have hj0 : (0 : Int) ≤ (j : Int) := by omega
          have hj1 : (j : Int) < (rcpts.length : Int) := by omega
          clear hcall hon hrd hb2 hnx hx
          go_wp2_with fail
          refine (Hcall.out).mono ?_; rintro e w4 ⟨rfl, hon4⟩
          have Hon4 := Lib.hid hon4
          clear hon4
          go_wp2
          go_roundw
          case rel => exact ⟨j + 1, by omega, by simp, Hon4.out⟩
          case measure => simp [intOf] <;> omega
        · have hje : j = rcpts.length := by omega
          have hlj := Hlen.out j
          have hlj2 : (rcpts.take j).length * (8 + 100000) ≤ 8 * (8 + 100000) := Nat.mul_le_mul_right _ (by rw [List.length_take]; omega)
          subst hje
          rw [List.take_of_length_le (Nat.le_refl _)] at hon hlj hlj2
          generalize hp6 : p5 ++ rcpts.flatMap lenB = p6 at hon
          have hl6 : p6.length ≤ 1000000 := by rw [← hp6, List.length_append]; omega
          have Hp6 := Lib.hid hp6
          clear hp6 hlj hlj2
          have c5 := hon.cell hneM (HcM0.out 5 _ rfl)
          have hcall := hon.bytes (Below.refl _ _) (hon.rdb Hbd0.out Hneb.out) Hnb.out (fun k hk => ⟨fun e => Hneb.out (by rw [hk, e]), .inl (by have := Hob.out k hk; omega)⟩) (by omega) (by omega)
          have hin' : p6 ++ lenB body = bs := by rw [Hbs.out, ← Hp6.out, ← Hp5.out, ← Hp4.out, ← Hp3.out]
          rw [hin'] at hcall
          have Hcall := Lib.hid hcall
          clear hcall hon hin'
          go_wp2_with fail
          refine (Hcall.out).mono ?_; rintro e w5 ⟨rfl, hon5⟩
          have hout := hon5.out (by omega)
          have hbw5 : Below w1.heap.size w1 w5 := hb10.trans (hon5.below (Nat.le_refl _) (by omega))
          have Hout := Lib.hid hout
          clear hout hon5
          go_wp2_with fail
          refine (Hout.out).mono ?_; rintro e w6 ⟨vi, rfl, hown6, hb6⟩
          have hbw6 := hbw5.trans (hb6.mono hbw5.size)
          have hri := rdB_ofOwn hown6
          have hvb := own_base hown6
          have hvl := fun k hk => (hown6.lt k hk).2
          obtain ⟨W7, hW7⟩ : ∃ W7, w6.alloc (.cells #[.slice none 0 0, .bool false] 70) = W7 := ⟨_, rfl⟩
          have hb7 : Below w6.heap.size w6 W7 := by rw [← hW7]; exact (Below.refl _ _).alloc (Nat.le_refl _) _
          have hs7 : W7.heap.size = w6.heap.size + 1 := by rw [← hW7]; simp
          have hwr7 : WrOn W7 w6.heap.size W7 [] := WrOn.start (by rw [← hW7]; exact heap_alloc_new w6 _)
          have hri7 := hri.below (Nat.le_refl _) hb7
          obtain ⟨ai, capi, hvi⟩ := own_form0 hown6
          have hnil : NilOk vi := by
            obtain ⟨_, ⟨h2, h3⟩ | ⟨g, cap, cur, hv', _⟩⟩ := hown6
            · intro l c e; rw [e] at h2; cases h2; exact ⟨rfl, rfl⟩
            · intro l c e; rw [e] at hv'; cases hv'
          have hcall := hwr7.bytes (Below.refl _ _) hri7 hnil (fun k hk => by have := hvl k hk; exact ⟨by omega, .inl (by omega)⟩) (by simp) (by omega)
          rw [List.nil_append] at hcall
          have Hcall := Lib.hid hcall
          have Hri := Lib.hid hri7
          have Hvl := Lib.hid hvl
          have hbw7 := hbw6.trans (hb7.mono hbw6.size)
          have hsz5 := hb6.size
          have hsz1 := hbw5.size
          clear hcall hri hri7 hvl hown6 hwr7 hvb hnil
          subst hvi
          subst hW7
          go_wp2_with fail
          refine (Hcall.out).mono ?_; rintro e w8 ⟨rfl, hon8⟩
          have hout8 := hon8.out (by rw [lenB_length]; omega)
          have hri8 := hon8.rdb Hri.out (fun e => by have := Hvl.out _ e; omega)
          have hb8 : Below w6.heap.size _ w8 := hon8.below (Nat.le_refl _) (by omega)
          have hbw8 := hbw7.trans (hb8.mono (by omega))
          have Hout8 := Lib.hid hout8
          have Hri8 := Lib.hid hri8
          have hs8 := hon8.size
          clear hout8 hri8 hon8
          go_wp2_with fail
          refine (Hout8.out).mono ?_; rintro e w9 ⟨vo, rfl, hown9, hb9⟩
          have hri9 := Hri8.out.below (Nat.le_refl _) hb9
          have hbw9 := hbw8.trans (hb9.mono hbw8.size)
          have hsum := envSum_calls _ bs w9 hri9
          have Hsum := Lib.hid hsum
          clear hsum hri9
          go_wp2_with fail
          refine (Hsum.out).mono ?_; rintro e w10 ⟨vs, rfl, hown10, hb10'⟩
          have hownO := own_below hown9 hb10' (Nat.le_refl _)
          have hsrc := rdLB (rdB_ofOwn hown10)
          have hnils : NilOk vs := by
            obtain ⟨_, ⟨h2, h3⟩ | ⟨g, cap, cur, hv', _⟩⟩ := hown10
            · intro l c e; rw [e] at h2; cases h2; exact ⟨rfl, rfl⟩
            · intro l c e; rw [e] at hv'; cases hv'
          have hone := bb1_one (be4 (PbCrc.sum bs))
          have h4 : (be4 (PbCrc.sum bs)).length = 4 := rfl
          have hLb := lenB_length bs
          have hm1 : (lenB bs).length + (be4 (PbCrc.sum bs)).length ≤ maxLen := by show _ ≤ 9223372036854775807; omega
          have hm2 : ((lenB bs).length + (be4 (PbCrc.sum bs)).length) * 1 ≤ 140737488355328 := by omega
          have hbs10 : w8.heap.size ≤ w10.heap.size := by have := hb9.size; have := hb10'.size; omega
          have hbw10 := hbw9.trans (hb10'.mono hbw9.size)
          obtain ⟨i0, hi, hz0, hz1, hz2⟩ := info_parts infoU8
          have Hone := Lib.hid hone
          clear hone hown9 hown10
          go_wp2_with (at_builtin; go_must (refine wpList_append_any bb1_len (by decide) rfl (.tmp 74) (.tmp 76) 23 rfl w8.heap.size 5 i0 (.int .u8 0) 1 Tryz.underlying23 hi hz0 hz1 hz2 rfl _ _ _ rfl hownO _ (be4 (PbCrc.sum bs)) rfl hsrc hnils Hone.out hm1 hm2 hbs10 ?_); rintro v2 w11 hown11 hg11 _)
          go_ret2
          have hsw8 : w.heap.size ≤ w8.heap.size := by omega
          refine ⟨v2, rfl, ?_, (hbw1.trans (hbw10.mono hbw1.size)).grown hg11 (by have := hbw10.size; omega) (fun k hk => by have := own_base hownO k hk; omega)⟩
          rw [bb1_flat, ← List.map_append, ← List.length_append] at hown11
          exact own_mono hown11 hsw8
end Go.Proofs.YtjddicoigbidlaaGreatDoor

set_option linter.unusedSimpArgs false
set_option linter.unusedVariables false
namespace Go.Proofs.YtjddicoigbidlaaGreatDoor
open Go.RowKit
theorem beNat_num8 (n : Nat) (h : n < 18446744073709551616) : beNat (num8 n) = n := by
  have e : num8 n = [UInt8.ofNat (n / 2 ^ 56), UInt8.ofNat (n / 2 ^ 48), UInt8.ofNat (n / 2 ^ 40), UInt8.ofNat (n / 2 ^ 32), UInt8.ofNat (n / 2 ^ 24), UInt8.ofNat (n / 2 ^ 16), UInt8.ofNat (n / 2 ^ 8), UInt8.ofNat (n / 2 ^ 0)] := rfl
  rw [e]
  simp only [beNat, List.foldl_cons, List.foldl_nil, UInt8.toNat_ofNat']
  omega
theorem parse_bytes (k : MarkD) (hg : k.good = true) : parseMark k.bytes = some k := by
  have hg' : 1 ≤ k.kind ∧ k.kind ≤ 5 ∧ 0 ≤ k.rcpt ∧ k.rcpt < 8 ∧ 0 ≤ k.n ∧ k.n ≤ 1099511627776 := of_decide_eq_true hg
  have hm : markOf k.bytes = k := by
    obtain ⟨kind, rcpt, n⟩ := k
    simp only at hg'
    obtain ⟨a, rfl⟩ := Int.eq_ofNat_of_zero_le (show 0 ≤ kind by omega)
    obtain ⟨b, rfl⟩ := Int.eq_ofNat_of_zero_le (show 0 ≤ rcpt by omega)
    obtain ⟨c, rfl⟩ := Int.eq_ofNat_of_zero_le (show 0 ≤ n by omega)
    have ea : (num8 a).length = 8 := num8_length a
    have eb : (num8 b).length = 8 := num8_length b
    have ec : (num8 c).length = 8 := num8_length c
    unfold markOf MarkD.bytes MarkD.body
    simp only [Int.toNat_natCast]
    rw [List.append_assoc, List.append_assoc]
    have t1 : (num8 a ++ (num8 b ++ (num8 c ++ be4 (PbCrc.sum (num8 a ++ num8 b ++ num8 c))))).take 8 = num8 a := by rw [List.take_append_of_le_length (by omega), List.take_of_length_le (by omega)]
    have d1 : (num8 a ++ (num8 b ++ (num8 c ++ be4 (PbCrc.sum (num8 a ++ num8 b ++ num8 c))))).drop 8 = num8 b ++ (num8 c ++ be4 (PbCrc.sum (num8 a ++ num8 b ++ num8 c))) := List.drop_left' ea
    have d2 : (num8 a ++ (num8 b ++ (num8 c ++ be4 (PbCrc.sum (num8 a ++ num8 b ++ num8 c))))).drop 16 = num8 c ++ be4 (PbCrc.sum (num8 a ++ num8 b ++ num8 c)) := by
      rw [show 16 = 8 + 8 from rfl, ← List.drop_drop, d1]; exact List.drop_left' eb
    rw [t1, d1, d2, List.take_append_of_le_length (by omega), List.take_of_length_le (by omega), List.take_append_of_le_length (by omega), List.take_of_length_le (by omega)]
    rw [beNat_num8 a (by omega), beNat_num8 b (by omega), beNat_num8 c (by omega)]
  unfold parseMark
  rw [hm, if_pos ⟨hg, rfl⟩]
/-- The bytes of marks. -/
def bytesM (ks : List MarkD) : List UInt8 := ks.flatMap MarkD.bytes
theorem bytesM_length (ks : List MarkD) : (bytesM ks).length = 28 * ks.length := by
  induction ks with
  | nil => rfl
  | cons k ks ih => unfold bytesM at *; rw [List.flatMap_cons, List.length_append, ih, bytes_length, List.length_cons]; omega
theorem decodeN_cut : ∀ (ks : List MarkD) (m n : Nat), (∀ k ∈ ks, k.good = true) → ks.length ≤ m → n ≤ (bytesM ks).length → decodeN m ((bytesM ks).take n) = ks.take (n / 28) := by
  intro ks
  induction ks with
  | nil => intro m n _ _ _; cases m <;> simp [bytesM, decodeN]
  | cons k ks ih =>
    intro m n hg hm hn
    rw [bytesM_length] at hn
    rw [List.length_cons] at hm hn
    obtain ⟨m, rfl⟩ : ∃ m', m = m' + 1 := ⟨m - 1, by omega⟩
    have hl := bytes_length k
    have hb : bytesM (k :: ks) = k.bytes ++ bytesM ks := rfl
    rw [decodeN]
    by_cases hn28 : n < 28
    · rw [if_pos (by rw [List.length_take]; omega), show n / 28 = 0 by omega]; rfl
    · have hle : ((bytesM (k :: ks)).take n).length = n := by rw [List.length_take, bytesM_length, List.length_cons]; omega
      rw [if_neg (by omega)]
      have ht : ((bytesM (k :: ks)).take n).take 28 = k.bytes := by
        rw [List.take_take, hb, Nat.min_eq_left (by omega), List.take_append_of_le_length (by omega), List.take_of_length_le (by omega)]
      have hd : ((bytesM (k :: ks)).take n).drop 28 = (bytesM ks).take (n - 28) := by
        rw [List.drop_take, hb, List.drop_left' hl]
      rw [ht, hd, parse_bytes k (hg k List.mem_cons_self)]
      simp only
      rw [ih m (n - 28) (fun x hx => hg x (List.mem_cons_of_mem _ hx)) (by omega) (by rw [bytesM_length]; omega)]
      rw [show n / 28 = (n - 28) / 28 + 1 by omega, List.take_succ_cons]
theorem decodeM_cut (ks : List MarkD) (n : Nat) (hg : ∀ k ∈ ks, k.good = true) (hm : ks.length ≤ 4096) (hn : n ≤ (bytesM ks).length) : decodeM ((bytesM ks).take n) = ks.take (n / 28) :=
  decodeN_cut ks 4096 n hg hm hn
/-- A slice's first elements. -/
theorem run_slice_pre {P : Program} {t e : TypeId} {s : Nat} (ht : P.underlying t = some (.slice e)) (hi : (P.info? e).map (·.size) = some s) (a : Option Addr) (len cap h : Nat) (hh : h ≤ cap) (w : World) :
    (Instr.sliceAt t (.slice a len cap) none (some (.int .i64 (h : Int))) none).run P w = .ok (.slice a h cap) w := by
  obtain ⟨i, hi1, hi2⟩ := Option.map_eq_some_iff.1 hi
  simp [Instr.sliceAt, Instr.slice, Instr.sliceBounds, Instr.sliceBound, run_underlying ht, asIntOf, go_sem, hi1, hi2, sizeOf, typeInfo]
  intro h'; omega
theorem RdL.pre {α : Type} {s : Nat} {f : α → List Value} {w : World} {a : Option Addr} {len cap : Nat} {xs : List α} (h : RdL s f w (.slice a len cap) xs) (k : Nat) (hk : k ≤ xs.length) : RdL s f w (.slice a k cap) (xs.take k) := by
  rcases h with ⟨a', c, hv, hc, rfl⟩ | ⟨b, off, cap', hv, hne, h1, h2, h3, h4⟩
  · cases hv
    obtain rfl : k = 0 := by simpa using hk
    exact .inl ⟨_, _, rfl, hc, rfl⟩
  · cases hv
    by_cases e : k = 0
    · subst e; exact .inl ⟨_, _, rfl, h2, rfl⟩
    · have hl : (xs.take k).length = k := by rw [List.length_take]; omega
      refine .inr ⟨b, off, cap, by rw [hl], by intro h; rw [h] at hl; simp at hl; omega, by omega, h2, h3, ?_⟩
      intro i x hx j u hu
      rw [List.getElem?_take] at hx
      split at hx
      · exact h4 i x hx j u hu
      · cases hx
end Go.Proofs.YtjddicoigbidlaaGreatDoor
