/-
  The walks of qfile.File.Crashes and qfile.Due.
-/
import Derived.Test.YtjddicoigbidlaaGreatDoorQ11
set_option linter.unusedSimpArgs false
set_option linter.unusedVariables false
set_option maxRecDepth 100000
namespace Go.Proofs.YtjddicoigbidlaaGreatDoor
open Go.RowKit
/-- How often the power went, among the first ones. -/
def crashTo (fs : List FateD) (j : Nat) : Int := (fs.take j).foldl (fun a x => max a x.crashes) 0
theorem crashTo_succ {fs : List FateD} {j : Nat} {x : FateD} (h : fs[j]? = some x) : crashTo fs (j + 1) = max (crashTo fs j) x.crashes := by
  unfold crashTo
  rw [take_snoc h, List.foldl_append]; rfl
/-- When the next attempt is due, among the first ones. -/
def dueTo (fs : List FateD) (j : Nat) : Int := (fs.take j).foldl (fun a x => if x.waits && !x.opened then min a x.next else a) 1099511627776
theorem dueTo_succ {fs : List FateD} {j : Nat} {x : FateD} (h : fs[j]? = some x) : dueTo fs (j + 1) = if x.waits && !x.opened then min (dueTo fs j) x.next else dueTo fs j := by
  unfold dueTo
  rw [take_snoc h, List.foldl_append]; rfl
set_option maxHeartbeats 8000000 in
theorem fileCrashes_calls (f : FileD) (vr vb vm : Value) (w : World) (hr : RdS w vr f.mail.rcpts) (hm : RdM w vm f.marks) (hbf : ∃ a c, vb = .slice a f.mail.body.length c) (hl8 : f.fates.length ≤ 8) :
    Calls Tryz.prog 35 #[fileVal f vr vb vm] w fun e w' => e = .returned (.int .i64 (crashTo f.fates f.fates.length)) ∧ Below w.heap.size w w' := by
  obtain ⟨ar, capr, rfl, _, _⟩ := hr.form
  obtain ⟨am, capm, rfl, _, _⟩ := hm.form
  obtain ⟨ab, capb, rfl⟩ := hbf
  obtain ⟨hbW, hF⟩ := file_box f (.slice ar f.mail.rcpts.length capr) (.slice ab f.mail.body.length capb) (.slice am f.marks.length capm) w
  obtain ⟨W, hW⟩ : ∃ W, w.alloc (.cells #[.int .i64 f.mail.id, .int .i64 f.mail.parent, .int .i64 f.mail.born, .string (strL f.mail.frm), .slice ar f.mail.rcpts.length capr, .slice ab f.mail.body.length capb, .slice am f.marks.length capm, .int .i64 (f.good : Int)] 43) = W := ⟨_, rfl⟩
  rw [hW] at hbW hF
  obtain ⟨c0, c1, c2, c3, c4, c5, c6, c7⟩ := (cells8 hF).1
  have hcall := fileFates_calls f (.slice ar f.mail.rcpts.length capr) (.slice ab f.mail.body.length capb) (.slice am f.marks.length capm) W (hr.below (Nat.le_refl _) hbW) (hm.below (Nat.le_refl _) hbW)
  generalize f.fates = fs at hcall hl8 ⊢
  obtain ⟨R, hR⟩ : ∃ R, crashTo fs fs.length = R := ⟨_, rfl⟩
  rw [hR]
  have HR := Lib.hid hR
  have hz : ∀ w, (zeroValue 57).run Tryz.prog w = .ok (.agg #[.int .i64 0, .int .i64 0, .int .i64 0, .int .i64 0, .bool false]) w := fun _ => by kernel_rfl
  have Hcall := Lib.hid hcall
  have HbW := Lib.hid hbW
  clear hcall hbW hF hr hm hR
  subst hW
  go_enter Tryz.func35, Tryz.ntmps35
  go_wp2_with fail
  refine (Hcall.out).mono ?_; rintro e w1 ⟨g, cap, rfl, hown, hb1⟩
  have hbw1 := HbW.out.trans (hb1.mono HbW.out.size)
  have hrd := rdL_ofOwn fate_len (by decide) hown
  have Hrd := Lib.hid hrd
  have hs1 : w.heap.size ≤ w1.heap.size := hbw1.size
  clear hown hrd
  go_wp2
  go_loopw [3, 9] (fun o i wr => ∃ j : Nat, j ≤ fs.length ∧ i = .int .i64 j ∧ o = .int .i64 (crashTo fs j) ∧ Below w1.heap.size w1 wr) (fun _ i _ => fs.length - (intOf i).toNat)
  case atStart => exact ⟨0, Nat.zero_le _, rfl, rfl, Below.refl _ _⟩
  case round =>
    obtain ⟨j, hj, rfl, rfl, hbw⟩ := hrel
    by_cases hlt : j < fs.length
    · obtain ⟨x, hx⟩ : ∃ x, fs[j]? = some x := ⟨_, List.getElem?_eq_getElem hlt⟩
      obtain ⟨b, off, cap', hsl, hbl, y0, y1, y2, y3, y4⟩ := RdL.at5 (Hrd.out.below (Nat.le_refl _) hbw) hx
      cases hsl
      simp only [Nat.zero_add] at y0 y1 y2 y3 y4
      have hj0 : (0 : Int) ≤ (j : Int) := by omega
      have hj1 : (j : Int) < (fs.length : Int) := by omega
      have hsucc := crashTo_succ hx
      generalize crashTo fs j = acc at hsucc ⊢
      obtain ⟨st, tr, nx, cr, op⟩ := x
      simp only at y0 y1 y2 y3 y4 hsucc
      have Hsucc := Lib.hid hsucc
      clear hsucc hx
      by_cases hm : acc < cr
      · go_wp2
        go_roundw
        case rel =>
          refine ⟨j + 1, by omega, by simp, ?_, hbw.alloc hbw.size _⟩
          rw [Hsucc.out, Int.max_eq_right (by omega)]
        case measure => simp [intOf] <;> omega
      · go_wp2
        go_roundw
        case rel =>
          refine ⟨j + 1, by omega, by simp, ?_, hbw.alloc hbw.size _⟩
          rw [Hsucc.out, Int.max_eq_left (by omega)]
        case measure => simp [intOf] <;> omega
    · have hje : j = fs.length := by omega
      subst hje
      rw [HR.out]
      have hjl : ¬ ((fs.length : Int) < (fs.length : Int)) := by omega
      go_wp2
      go_ret
      exact ⟨rfl, hbw1.trans (hbw.mono hs1)⟩
set_option maxHeartbeats 8000000 in
theorem qDue_calls (f : FileD) (vr vb vm : Value) (w : World) (hr : RdS w vr f.mail.rcpts) (hm : RdM w vm f.marks) (hbf : ∃ a c, vb = .slice a f.mail.body.length c) (hl8 : f.fates.length ≤ 8) :
    Calls Tryz.prog 37 #[fileVal f vr vb vm] w fun e w' => e = .returned (.int .i64 (dueTo f.fates f.fates.length)) ∧ Below w.heap.size w w' := by
  obtain ⟨ar, capr, rfl, _, _⟩ := hr.form
  obtain ⟨am, capm, rfl, _, _⟩ := hm.form
  obtain ⟨ab, capb, rfl⟩ := hbf
  obtain ⟨hbW, hF⟩ := file_box f (.slice ar f.mail.rcpts.length capr) (.slice ab f.mail.body.length capb) (.slice am f.marks.length capm) w
  obtain ⟨W, hW⟩ : ∃ W, w.alloc (.cells #[.int .i64 f.mail.id, .int .i64 f.mail.parent, .int .i64 f.mail.born, .string (strL f.mail.frm), .slice ar f.mail.rcpts.length capr, .slice ab f.mail.body.length capb, .slice am f.marks.length capm, .int .i64 (f.good : Int)] 43) = W := ⟨_, rfl⟩
  rw [hW] at hbW hF
  obtain ⟨c0, c1, c2, c3, c4, c5, c6, c7⟩ := (cells8 hF).1
  have hcall := fileFates_calls f (.slice ar f.mail.rcpts.length capr) (.slice ab f.mail.body.length capb) (.slice am f.marks.length capm) W (hr.below (Nat.le_refl _) hbW) (hm.below (Nat.le_refl _) hbW)
  generalize f.fates = fs at hcall hl8 ⊢
  obtain ⟨R, hR⟩ : ∃ R, dueTo fs fs.length = R := ⟨_, rfl⟩
  rw [hR]
  have HR := Lib.hid hR
  have hz : ∀ w, (zeroValue 57).run Tryz.prog w = .ok (.agg #[.int .i64 0, .int .i64 0, .int .i64 0, .int .i64 0, .bool false]) w := fun _ => by kernel_rfl
  have Hwt := Lib.hid waits_calls
  have Hcall := Lib.hid hcall
  have HbW := Lib.hid hbW
  clear hcall hbW hF hr hm hR
  subst hW
  go_enter Tryz.func37, Tryz.ntmps37
  go_wp2_with fail
  refine (Hcall.out).mono ?_; rintro e w1 ⟨g, cap, rfl, hown, hb1⟩
  have hbw1 := HbW.out.trans (hb1.mono HbW.out.size)
  have hrd := rdL_ofOwn fate_len (by decide) hown
  have Hrd := Lib.hid hrd
  have hs1 : w.heap.size ≤ w1.heap.size := hbw1.size
  clear hown hrd
  go_wp2
  go_loopw [3, 9] (fun o i wr => ∃ j : Nat, j ≤ fs.length ∧ i = .int .i64 j ∧ o = .int .i64 (dueTo fs j) ∧ Below w1.heap.size w1 wr) (fun _ i _ => fs.length - (intOf i).toNat)
  case atStart => exact ⟨0, Nat.zero_le _, rfl, rfl, Below.refl _ _⟩
  case round =>
    obtain ⟨j, hj, rfl, rfl, hbw⟩ := hrel
    by_cases hlt : j < fs.length
    · obtain ⟨x, hx⟩ : ∃ x, fs[j]? = some x := ⟨_, List.getElem?_eq_getElem hlt⟩
      obtain ⟨b, off, cap', hsl, hbl, y0, y1, y2, y3, y4⟩ := RdL.at5 (Hrd.out.below (Nat.le_refl _) hbw) hx
      cases hsl
      simp only [Nat.zero_add] at y0 y1 y2 y3 y4
      have hj0 : (0 : Int) ≤ (j : Int) := by omega
      have hj1 : (j : Int) < (fs.length : Int) := by omega
      have hsucc := dueTo_succ hx
      generalize dueTo fs j = acc at hsucc ⊢
      have hwt := waits_calls x
      obtain ⟨wt, hwt'⟩ : ∃ wt, x.waits = wt := ⟨_, rfl⟩
      rw [hwt'] at hwt hsucc
      obtain ⟨st, tr, nx, cr, op⟩ := x
      simp only at y0 y1 y2 y3 y4 hsucc
      have Hsucc := Lib.hid hsucc
      have Hwt := Lib.hid hwt
      have hxb : ∀ W', Below (wr.heap.size + 1) (wr.alloc (.cells #[.int .i64 st, .int .i64 tr, .int .i64 nx, .int .i64 cr, .bool op] 57)) W' → W'.heap[wr.heap.size]? = some (.cells #[.int .i64 st, .int .i64 tr, .int .i64 nx, .int .i64 cr, .bool op] 57 (0, 0)) := fun W' h => (h.block _ (by omega)).trans (heap_alloc_new wr _)
      have Hxb := Lib.hid hxb
      clear hsucc hx hwt hwt' hxb
      go_wp2_with fail
      refine (Hwt.out _).mono ?_; rintro e w2 ⟨rfl, hb2⟩
      have hba : Below wr.heap.size wr (wr.alloc (.cells #[.int .i64 st, .int .i64 tr, .int .i64 nx, .int .i64 cr, .bool op] 57)) := (Below.refl _ _).alloc (Nat.le_refl _) _
      have hbw2 := (hbw.trans (hba.mono hbw.size)).trans (hb2.mono (Nat.le_trans hbw.size hba.size))
      have hX := Hxb.out w2 (by simpa using hb2)
      have z2 : w2.cell? ⟨wr.heap.size, 2, none⟩ = some (.int .i64 nx) := by rw [cell_of_row _ _ _ _ _ _ hX]; rfl
      have z4 : w2.cell? ⟨wr.heap.size, 4, none⟩ = some (.bool op) := by rw [cell_of_row _ _ _ _ _ _ hX]; rfl
      clear hX hb2 hba
      cases wt
      · go_wp2
        go_roundw
        case rel =>
          refine ⟨j + 1, by omega, by simp, ?_, hbw2⟩
          rw [Hsucc.out]; rfl
        case measure => simp [intOf] <;> omega
      · cases op
        · by_cases hm : nx < acc
          · go_wp2
            go_roundw
            case rel =>
              refine ⟨j + 1, by omega, by simp, ?_, hbw2⟩
              rw [Hsucc.out]; show _ = Value.int .i64 (min acc nx); rw [Int.min_eq_right (by omega)]
            case measure => simp [intOf] <;> omega
          · go_wp2
            go_roundw
            case rel =>
              refine ⟨j + 1, by omega, by simp, ?_, hbw2⟩
              rw [Hsucc.out]; show _ = Value.int .i64 (min acc nx); rw [Int.min_eq_left (by omega)]
            case measure => simp [intOf] <;> omega
        · go_wp2
          go_roundw
          case rel =>
            refine ⟨j + 1, by omega, by simp, ?_, hbw2⟩
            rw [Hsucc.out]; rfl
          case measure => simp [intOf] <;> omega
    · have hje : j = fs.length := by omega
      subst hje
      rw [HR.out]
      have hjl : ¬ ((fs.length : Int) < (fs.length : Int)) := by omega
      go_wp2
      go_ret
      exact ⟨rfl, hbw1.trans (hbw.mono hs1)⟩
end Go.Proofs.YtjddicoigbidlaaGreatDoor
