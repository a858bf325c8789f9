/-
  The walk of pillarboxref10.Good.
-/
import Derived.Test.YtffnbkmigapmjaaGreatDoorC11
set_option linter.unusedSimpArgs false
set_option linter.unusedVariables false
namespace Go.Proofs.YtffnbkmigapmjaaGreatDoor
open Go.RowKit
set_option maxRecDepth 100000 in
set_option maxHeartbeats 8000000 in
theorem refGood_calls (m : MailD) (vr vb : Value) (w : World) (hr : RdS w vr m.rcpts) (hb : RdB w vb m.body) (hsr : ∀ l ∈ m.rcpts, l.length ≤ 4294967270) (hsf : m.frm.length ≤ 4294967270) :
    Calls Tryz.prog 38 #[mailVal m vr vb] w fun e w' => e = .returned (.bool m.good) ∧ Below w.heap.size w w' := by
  obtain ⟨ar, capr, rfl, hlr, hcr⟩ := hr.form
  obtain ⟨ab, capb, rfl, hlb, hcb⟩ := hb.form
  obtain ⟨g, hg⟩ : ∃ g, m.good = g := ⟨_, rfl⟩
  rw [hg]
  obtain ⟨id, parent, born, frm, rcpts, body⟩ := m
  simp only at hr hb hsr hsf hlr hlb
  unfold MailD.good at hg
  unfold mailVal
  simp only at hg ⊢
  obtain ⟨W, hW⟩ : ∃ W, w.alloc (.cells #[.int .i64 id, .int .i64 parent, .int .i64 born, .string (strL frm), .slice ar rcpts.length capr, .slice ab body.length capb] 29) = W := ⟨_, rfl⟩
  have hbW : Below w.heap.size w W := by rw [← hW]; exact (Below.refl _ _).alloc (Nat.le_refl _) _
  have hblk : W.heap[w.heap.size]? = some (.cells #[.int .i64 id, .int .i64 parent, .int .i64 born, .string (strL frm), .slice ar rcpts.length capr, .slice ab body.length capb] 29 (0, 0)) := by rw [← hW]; exact heap_alloc_new w _
  have hbd := refBody_calls (.slice ab body.length capb) body W (hb.below (Nat.le_refl _) hbW)
  have hbx := fun W => refBox_calls (strL frm) W (by rw [strL_size]; exact hsf)
  have hbr := fun (l : List UInt8) W (h : l ∈ rcpts) => refBox_calls (strL l) W (by rw [strL_size]; exact hsr l h)
  simp only [strL_data] at hbx hbr
  have hcell : ∀ W', Below W.heap.size W W' → ∀ (j : Nat) v, (#[Value.int .i64 id, .int .i64 parent, .int .i64 born, .string (strL frm), .slice ar rcpts.length capr, .slice ab body.length capb] : Array Value)[j]? = some v → W'.cell? ⟨w.heap.size, j, none⟩ = some v := by
    intro W' hB j v hv
    rw [cell_of_row _ _ _ _ _ _ ((hB.block _ (Array.getElem?_eq_some_iff.1 hblk).1).trans hblk)]
    exact hv
  have hRW : ∀ W', Below W.heap.size W W' → RdS W' (.slice ar rcpts.length capr) rcpts := fun W' hB => (hr.below (Nat.le_refl _) hbW).below (Nat.le_refl _) hB
  have c0 := hcell W (Below.refl _ _) 0 _ rfl
  have c1 := hcell W (Below.refl _ _) 1 _ rfl
  have c2 := hcell W (Below.refl _ _) 2 _ rfl
  have c4 := hcell W (Below.refl _ _) 4 _ rfl
  have c5 := hcell W (Below.refl _ _) 5 _ rfl
  have hsf0 := strL_size frm
  generalize bodyB body = p6 at hbd hg
  generalize boxB frm = p8 at hbx hg
  have Hg := Lib.hid hg
  have Hbd := Lib.hid hbd
  have Hbx := Lib.hid hbx
  have Hbr := Lib.hid hbr
  have Hcell := Lib.hid hcell
  have HRW := Lib.hid hRW
  have hfl : frm.length = 0 ↔ (strL frm).size = 0 := by rw [hsf0]
  have Hfl := Lib.hid hfl
  clear hg hbd hbx hbr hcell hRW hr hb hsr hsf hblk hsf0 hfl
  have hlri : (rcpts.length : Int) ≤ 9223372036854775807 := by omega
  have hlbi : (body.length : Int) ≤ 9223372036854775807 := by omega
  by_cases k0 : id < 1
  · have hgf := Hg.out
    rw [decide_eq_false (by omega : ¬ (1 ≤ id ∧ id ≤ 999999999))] at hgf
    simp only [Bool.false_and, Bool.and_false] at hgf
    subst hgf
    clear Hg
    go_enter Tryz.func38, Tryz.ntmps38
    go_wp2
    go_ret
    exact ⟨rfl, hbW⟩
  by_cases k1 : 999999999 < id
  · have hgf := Hg.out
    rw [decide_eq_false (by omega : ¬ (1 ≤ id ∧ id ≤ 999999999))] at hgf
    simp only [Bool.false_and, Bool.and_false] at hgf
    subst hgf
    clear Hg
    go_enter Tryz.func38, Tryz.ntmps38
    go_wp2
    go_ret
    exact ⟨rfl, hbW⟩
  by_cases k2 : parent < 0
  · have hgf := Hg.out
    rw [decide_eq_false (by omega : ¬ (0 ≤ parent ∧ parent ≤ id - 1))] at hgf
    simp only [Bool.false_and, Bool.and_false] at hgf
    subst hgf
    clear Hg
    go_enter Tryz.func38, Tryz.ntmps38
    go_wp2
    go_ret
    exact ⟨rfl, hbW⟩
  by_cases k3 : id ≤ parent
  · have hgf := Hg.out
    rw [decide_eq_false (by omega : ¬ (0 ≤ parent ∧ parent ≤ id - 1))] at hgf
    simp only [Bool.false_and, Bool.and_false] at hgf
    subst hgf
    clear Hg
    go_enter Tryz.func38, Tryz.ntmps38
    go_wp2
    go_ret
    exact ⟨rfl, hbW⟩
  by_cases k4 : born < 0
  · have hgf := Hg.out
    rw [decide_eq_false (by omega : ¬ (0 ≤ born ∧ born ≤ 1099511627776))] at hgf
    simp only [Bool.false_and, Bool.and_false] at hgf
    subst hgf
    clear Hg
    go_enter Tryz.func38, Tryz.ntmps38
    go_wp2
    go_ret
    exact ⟨rfl, hbW⟩
  by_cases k5 : 1099511627776 < born
  · have hgf := Hg.out
    rw [decide_eq_false (by omega : ¬ (0 ≤ born ∧ born ≤ 1099511627776))] at hgf
    simp only [Bool.false_and, Bool.and_false] at hgf
    subst hgf
    clear Hg
    go_enter Tryz.func38, Tryz.ntmps38
    go_wp2
    go_ret
    exact ⟨rfl, hbW⟩
  by_cases k6 : (rcpts.length : Int) < 1
  · have hgf := Hg.out
    rw [decide_eq_false (by omega : ¬ (1 ≤ (rcpts.length : Int) ∧ (rcpts.length : Int) ≤ 8))] at hgf
    simp only [Bool.false_and, Bool.and_false] at hgf
    subst hgf
    clear Hg
    go_enter Tryz.func38, Tryz.ntmps38
    go_wp2
    go_ret
    exact ⟨rfl, hbW⟩
  by_cases k7 : 8 < (rcpts.length : Int)
  · have hgf := Hg.out
    rw [decide_eq_false (by omega : ¬ (1 ≤ (rcpts.length : Int) ∧ (rcpts.length : Int) ≤ 8))] at hgf
    simp only [Bool.false_and, Bool.and_false] at hgf
    subst hgf
    clear Hg
    go_enter Tryz.func38, Tryz.ntmps38
    go_wp2
    go_ret
    exact ⟨rfl, hbW⟩
  by_cases k8 : 8192 < (body.length : Int)
  · have hgf := Hg.out
    rw [decide_eq_false (by omega : ¬ (body.length ≤ 8192))] at hgf
    simp only [Bool.false_and, Bool.and_false] at hgf
    subst hgf
    clear Hg
    go_enter Tryz.func38, Tryz.ntmps38
    go_wp2
    go_ret
    exact ⟨rfl, hbW⟩
  have hg := Hg.out
  rw [decide_eq_true (by omega : 1 ≤ id ∧ id ≤ 999999999)] at hg
  rw [decide_eq_true (by omega : 0 ≤ parent ∧ parent ≤ id - 1)] at hg
  rw [decide_eq_true (by omega : 0 ≤ born ∧ born ≤ 1099511627776)] at hg
  rw [decide_eq_true (by omega : 1 ≤ (rcpts.length : Int) ∧ (rcpts.length : Int) ≤ 8)] at hg
  rw [decide_eq_true (by omega : body.length ≤ 8192)] at hg
  simp only [Bool.true_and] at hg
  have Hg2 := Lib.hid hg
  clear Hg hg
  cases p6
  · have hgf := Hg2.out
    simp only [Bool.false_and] at hgf
    subst hgf
    clear Hg2
    go_enter Tryz.func38, Tryz.ntmps38
    go_wp2_with fail
    refine (Hbd.out).mono ?_; rintro e w6 ⟨rfl, rfl⟩
    go_wp2
    go_ret
    exact ⟨rfl, hbW⟩
  go_enter Tryz.func38, Tryz.ntmps38
  go_wp2_with fail
  refine (Hbd.out).mono ?_; rintro e w6 ⟨rfl, hw6⟩
  subst hw6
  go_wp2
  go_loopw [3] (fun i wr => ∃ j : Nat, j ≤ rcpts.length ∧ i = .int .i64 j ∧ (rcpts.take j).all boxB = true ∧ Below w6.heap.size w6 wr) (fun i _ => rcpts.length - (intOf i).toNat)
  case atStart => exact ⟨0, Nat.zero_le _, rfl, rfl, Below.refl _ _⟩
  case round =>
    obtain ⟨j, hj, rfl, hall, hbw⟩ := hrel
    have c4' := Hcell.out wr hbw 4 _ rfl
    have c3' := Hcell.out wr hbw 3 _ rfl
    have hbw' := hbW.trans (hbw.mono hbW.size)
    by_cases hlt : j < rcpts.length
    · obtain ⟨l, hl⟩ : ∃ l, rcpts[j]? = some l := ⟨_, List.getElem?_eq_getElem hlt⟩
      obtain ⟨b, off, cap', hsl, hbl, hc⟩ := RdS.at (HRW.out wr hbw) hl
      cases hsl
      have hcall := fun W => Hbr.out l W (List.mem_of_getElem? hl)
      have htk : boxB l = true → (rcpts.take (j + 1)).all boxB = true := fun h => by rw [take_snoc hl, List.all_append, hall]; simpa using h
      have hno : boxB l = false → g = false := fun h => by
        have : rcpts.all boxB = false := by rw [List.all_eq_false]; exact ⟨l, List.mem_of_getElem? hl, by rw [h]; simp⟩
        rw [← Hg2.out, this]; simp
      generalize boxB l = q at hcall htk hno
      have Hcall := Lib.hid hcall
      have Htk := Lib.hid htk
      have Hno := Lib.hid hno
      have hj0 : (0 : Int) ≤ (j : Int) := by omega
      have hj1 : (j : Int) < (rcpts.length : Int) := by omega
      clear hcall htk hno hall hl
      generalize strL l = sl at hc Hcall
      cases q
      · go_wp2_with fail
        refine (Hcall.out _).mono ?_; rintro e w7 ⟨rfl, hb7⟩
        go_wp2
        go_ret
        exact ⟨by rw [Hno.out (by trivial)]; rfl, hbw'.trans (hb7.mono hbw'.size)⟩
      · go_wp2_with fail
        refine (Hcall.out _).mono ?_; rintro e w7 ⟨rfl, hb7⟩
        go_wp2
        go_roundw
        case rel => exact ⟨j + 1, by omega, by simp, Htk.out (by trivial), hbw.trans (hb7.mono hbw.size)⟩
        case measure => simp [intOf] <;> omega
    · have hje : j = rcpts.length := by omega
      rw [hje, List.take_of_length_le (Nat.le_refl _)] at hall
      have hg2 := Hg2.out
      rw [hall, Bool.and_true, Bool.true_and] at hg2
      have hjn : (j : Int) = (rcpts.length : Int) := by omega
      have Hg3 := Lib.hid hg2
      have hjl : ¬ ((j : Int) < (rcpts.length : Int)) := by omega
      clear hall hg2 hje hjn
      by_cases h7 : frm.length = 0
      · have hz := empty_of_size (Hfl.out.1 h7)
        rw [hz] at c3'
        have hgt : g = true := by rw [← Hg3.out, decide_eq_true h7]; rfl
        subst hgt
        clear hz h7 Hg2
        go_wp2
        go_ret
        exact ⟨rfl, hbw'⟩
      · have hne : (strL frm).size ≠ 0 := fun h => h7 (Hfl.out.2 h)
        have hb1 := empty_ne hne
        have hb2 : (strL frm).toList.isEmpty = false := by simpa using hb1
        have hgt : g = p8 := by rw [← Hg3.out, decide_eq_false h7]; rfl
        subst hgt
        clear h7 hne Hg2
        go_wp2_with fail
        refine (Hbx.out _).mono ?_; rintro e w8 ⟨rfl, hb8⟩
        go_wp2
        go_ret
        exact ⟨rfl, hbw'.trans (hb8.mono hbw'.size)⟩
end Go.Proofs.YtffnbkmigapmjaaGreatDoor
