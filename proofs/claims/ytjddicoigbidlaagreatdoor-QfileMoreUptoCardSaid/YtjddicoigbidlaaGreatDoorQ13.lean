/-
  The walk of qfile.File.Open.
-/
import Derived.Test.YtjddicoigbidlaaGreatDoorQ12
set_option linter.unusedSimpArgs false
set_option linter.unusedVariables false
set_option maxRecDepth 100000
namespace Go.Proofs.YtjddicoigbidlaaGreatDoor
open Go.RowKit
/-- Has an attempt begun, and not ended? -/
def FateD.isOpen (x : FateD) : Bool := x.opened && x.waits
/-- Those of the first ones whose attempts are open. -/
def openTo (fs : List FateD) (j : Nat) : List Nat := (List.range j).filter fun i => match fs[i]? with
  | some x => x.isOpen
  | none => false
theorem openTo_succ {fs : List FateD} {j : Nat} {x : FateD} (h : fs[j]? = some x) : openTo fs (j + 1) = openTo fs j ++ if x.isOpen then [j] else [] := by
  unfold openTo
  rw [List.range_succ, List.filter_append]
  congr 1
  rw [List.filter_cons, h]
  cases hx : x.isOpen <;> simp [hx]
theorem openTo_len (fs : List FateD) (j : Nat) : (openTo fs j).length ≤ j := by
  unfold openTo
  have := List.length_filter_le (fun i => match fs[i]? with | some x => x.isOpen | none => false) (List.range j)
  rw [List.length_range] at this
  exact this
def IntsDone (w : World) (ns : List Nat) (e : Ending) (w' : World) : Prop :=
  ∃ v, e = .returned v ∧ w'.ownsRow w.heap.size 3 1 v ns.length (ns.flatMap i1) ∧ Below w.heap.size w w'
theorem infoInt : (Tryz.prog.info? 3).map (fun i => (i.zero, i.size, i.bytes)) = some (some (.int .i64 0), 1, 8) := by kernel_rfl
set_option maxHeartbeats 8000000 in
theorem fileOpen_calls (f : FileD) (vr vb vm : Value) (w : World) (hr : RdS w vr f.mail.rcpts) (hm : RdM w vm f.marks) (hbf : ∃ a c, vb = .slice a f.mail.body.length c) (hl8 : f.fates.length ≤ 8) :
    Calls Tryz.prog 34 #[fileVal f vr vb vm] w (IntsDone w (openTo f.fates f.fates.length)) := by
  obtain ⟨i0, hi, hz0, hz1, hz2⟩ := info_parts infoInt
  obtain ⟨ar, capr, rfl, _, _⟩ := hr.form
  obtain ⟨am, capm, rfl, _, _⟩ := hm.form
  obtain ⟨ab, capb, rfl⟩ := hbf
  obtain ⟨hbW, hF⟩ := file_box f (.slice ar f.mail.rcpts.length capr) (.slice ab f.mail.body.length capb) (.slice am f.marks.length capm) w
  obtain ⟨W, hW⟩ : ∃ W, w.alloc (.cells #[.int .i64 f.mail.id, .int .i64 f.mail.parent, .int .i64 f.mail.born, .string (strL f.mail.frm), .slice ar f.mail.rcpts.length capr, .slice ab f.mail.body.length capb, .slice am f.marks.length capm, .int .i64 (f.good : Int)] 43) = W := ⟨_, rfl⟩
  rw [hW] at hbW hF
  obtain ⟨c0, c1, c2, c3, c4, c5, c6, c7⟩ := (cells8 hF).1
  have hcall := fileFates_calls f (.slice ar f.mail.rcpts.length capr) (.slice ab f.mail.body.length capb) (.slice am f.marks.length capm) W (hr.below (Nat.le_refl _) hbW) (hm.below (Nat.le_refl _) hbW)
  generalize f.fates = fs at hcall hl8
  have Hcall := Lib.hid hcall
  have HbW := Lib.hid hbW
  clear hcall hbW hF hr hm
  subst hW
  have hz : ∀ w, (zeroValue 57).run Tryz.prog w = .ok (.agg #[.int .i64 0, .int .i64 0, .int .i64 0, .int .i64 0, .bool false]) w := fun _ => by kernel_rfl
  go_enter Tryz.func34, Tryz.ntmps34
  go_wp2_with fail
  refine (Hcall.out).mono ?_; rintro e w1 ⟨g, cap, rfl, hown, hb1⟩
  have hbw1 := HbW.out.trans (hb1.mono HbW.out.size)
  have hrd := rdL_ofOwn fate_len (by decide) hown
  have Hrd := Lib.hid hrd
  have hg1 : w.heap.size ≤ g := by have := own_base hown g rfl; have := HbW.out.size; omega
  have hs1 : w.heap.size ≤ w1.heap.size := hbw1.size
  have hnil : w1.ownsRow w1.heap.size 3 1 (.slice none 0 0) 0 [] := World.ownsRow_nil _ _ _ _
  clear hown hrd
  go_wp2
  go_loopw [3, 9] (fun o i wr => ∃ j : Nat, j ≤ fs.length ∧ i = .int .i64 j ∧ wr.ownsRow w1.heap.size 3 1 o (openTo fs j).length ((openTo fs j).flatMap i1) ∧ Below w1.heap.size w1 wr) (fun _ i _ => fs.length - (intOf i).toNat)
  case atStart => exact ⟨0, Nat.zero_le _, rfl, hnil, Below.refl _ _⟩
  case round =>
    obtain ⟨j, hj, rfl, hown, hbw⟩ := hrel
    by_cases hlt : j < fs.length
    · obtain ⟨x, hx⟩ : ∃ x, fs[j]? = some x := ⟨_, List.getElem?_eq_getElem hlt⟩
      obtain ⟨b, off, cap', hsl, hbl, y0, y1, y2, y3, y4⟩ := RdL.at5 (Hrd.out.below (Nat.le_refl _) hbw) hx
      cases hsl
      simp only [Nat.zero_add] at y0 y1 y2 y3 y4
      have hj0 : (0 : Int) ≤ (j : Int) := by omega
      have hj1 : (j : Int) < (fs.length : Int) := by omega
      have hsucc := openTo_succ hx
      have hol := openTo_len fs j
      generalize openTo fs j = os at hown hsucc hol
      obtain ⟨st, tr, nx, cr, op⟩ := x
      simp only at y0 y1 y2 y3 y4
      obtain ⟨ao, co, hvo⟩ := own_form0 hown
      subst hvo
      have Hsucc := Lib.hid hsucc
      have Hown := Lib.hid hown
      clear hsucc hx hown
      cases op
      · go_wp2
        go_roundw
        case rel =>
          have h := Hsucc.out
          simp only [FateD.isOpen, Bool.false_and, Bool.false_eq_true, if_false, List.append_nil] at h
          refine ⟨j + 1, by omega, by simp, ?_, hbw.alloc hbw.size _⟩
          rw [h]; exact World.ownsRow.alloc Hown.out _
        case measure => simp [intOf] <;> omega
      · by_cases hst : st = 0
        · subst hst
          obtain ⟨wa, hwa⟩ : ∃ wa, wr.alloc (.cells #[.int .i64 0, .int .i64 tr, .int .i64 nx, .int .i64 cr, .bool true] 57) = wa := ⟨_, rfl⟩
          have hba : Below wr.heap.size wr wa := by rw [← hwa]; exact (Below.refl _ _).alloc (Nat.le_refl _) _
          have hsa : wa.heap.size = wr.heap.size + 1 := by rw [← hwa]; simp
          have howna := own_below Hown.out hba (Nat.le_refl _)
          have hncell := news_new wa [.int .i64 (j : Int)] 3 (0, 0)
          have hcs1 : ∀ u ∈ [Value.int .i64 (j : Int)], u.oneCell' = true := by intro u hu; rw [List.mem_singleton.1 hu]; rfl
          have hbd1 : os.length + 1 ≤ maxLen := by show _ ≤ 9223372036854775807; omega
          have hbd2 : (os.length + 1) * 8 ≤ 140737488355328 := by omega
          have hbd3 : w1.heap.size ≤ (wa.alloc (.cells #[.int .i64 (j : Int)] 3)).heap.size := by have := hbw.size; simp; omega
          have hownA : (wa.alloc (.cells #[.int .i64 (j : Int)] 3)).ownsRow w1.heap.size 3 1 (.slice ao os.length co) os.length (os.flatMap i1) := World.ownsRow.alloc howna _
          rw [hsa] at hncell
          have Hncell := Lib.hid hncell
          have Hcs1 := Lib.hid hcs1
          have HownA := Lib.hid hownA
          have Hba := Lib.hid hba
          have hbwa := hbw.trans (hba.mono hbw.size)
          have hownBase := own_base Hown.out
          clear hncell hcs1 hownA hba howna hsa
          subst hwa
          go_wp2_with (at_builtin; go_must (refine wpList_append_own _ rfl (.tmp 21) (.tmp 23) 61 rfl w1.heap.size 3 i0 _ 1 8 Tryz.underlying61 hi hz0 hz1 hz2 rfl (by decide) _ _ _ rfl HownA.out ⟨wr.heap.size + 1, 0, none⟩ 1 1 [.int .i64 (j : Int)] rfl rfl Hncell.out Hcs1.out hbd1 hbd2 hbd3 ?_); rintro v' w3 hown3 hg3 _)
          go_wp2
          have hb3 := (hbwa.alloc hbwa.size (.cells #[.int .i64 (j : Int)] 3)).grown hg3 (by have := hbwa.size; simp only [World.size_alloc] at this ⊢; omega) (fun k hk => hownBase k hk)
          have Hown3 := Lib.hid hown3
          clear hown3 hg3
          go_roundw
          case rel =>
            have h := Hsucc.out
            refine ⟨j + 1, by omega, by simp, ?_, hb3⟩
            rw [show openTo fs (j + 1) = os ++ [j] from h, List.length_append, List.flatMap_append, List.flatMap_singleton]
            exact Hown3.out
          case measure => simp [intOf] <;> omega
        · have hst' : (st == 0) = false := by simpa using hst
          go_wp2
          go_roundw
          case rel =>
            have h := Hsucc.out
            simp only [FateD.isOpen, FateD.waits, hst', Bool.and_false, Bool.false_eq_true, if_false, List.append_nil] at h
            refine ⟨j + 1, by omega, by simp, ?_, hbw.alloc hbw.size _⟩
            rw [h]; exact World.ownsRow.alloc Hown.out _
          case measure => simp [intOf] <;> omega
    · have hje : j = fs.length := by omega
      subst hje
      have hjl : ¬ ((fs.length : Int) < (fs.length : Int)) := by omega
      have Hown := Lib.hid hown
      clear hown
      go_wp2
      go_ret
      exact ⟨_, rfl, own_mono Hown.out hs1, hbw1.trans (hbw.mono hs1)⟩
end Go.Proofs.YtjddicoigbidlaaGreatDoor
