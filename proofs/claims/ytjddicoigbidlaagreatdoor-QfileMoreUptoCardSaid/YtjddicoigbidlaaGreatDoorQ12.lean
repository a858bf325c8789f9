/-
  The walks of slices.IndexFunc, ContainsFunc at waits, of qfile's Over, Open, and of pillarboxref01.Ints.
-/
import Derived.Test.YtjddicoigbidlaaGreatDoorQ11
set_option linter.unusedSimpArgs false
set_option linter.unusedVariables false
set_option maxRecDepth 100000
namespace Go.Proofs.YtjddicoigbidlaaGreatDoor
open Go.RowKit
set_option maxHeartbeats 4000000 in
theorem indexWaits_calls (v : Value) (fs : List FateD) (w : World) (hv : RdF w v fs) :
    Calls Tryz.prog 82 #[v, .func (.func 65) #[] #[]] w fun e w' => (∃ i : Int, e = .returned (.int .i64 i) ∧ ((0 ≤ i ∧ fs.any FateD.waits = true) ∨ (i = -1 ∧ fs.any FateD.waits = false))) ∧ Below w.heap.size w w' := by
  obtain ⟨a, cap, rfl, hlc, hcap⟩ := hv.form
  have Hv := Lib.hid hv
  have hni : (fs.length : Int) ≤ 9223372036854775807 := by omega
  clear hv
  go_enter Tryz.func82, Tryz.ntmps82
  go_wp2
  go_loopw [8] (fun i wr => ∃ j : Nat, j ≤ fs.length ∧ i = .int .i64 j ∧ (fs.take j).any FateD.waits = false ∧ Below w.heap.size w wr) (fun i _ => fs.length - (intOf i).toNat)
  case atStart => exact ⟨0, Nat.zero_le _, rfl, rfl, Below.refl _ _⟩
  case round =>
    obtain ⟨j, hj, rfl, hall, hbw⟩ := hrel
    by_cases hlt : j < fs.length
    · obtain ⟨l, hl⟩ : ∃ l, fs[j]? = some l := ⟨_, List.getElem?_eq_getElem hlt⟩
      obtain ⟨b, off, cap', hsl, hbl, y0, y1, y2, y3, y4⟩ := RdL.at5 (Hv.out.below (Nat.le_refl _) hbw) hl
      cases hsl
      have hcall := fun W => waits_calls l W
      have htk : l.waits = false → (fs.take (j + 1)).any FateD.waits = false := fun h => by rw [take_snoc hl, List.any_append, hall]; simpa using h
      have hno : l.waits = true → fs.any FateD.waits = true := fun h => by rw [List.any_eq_true]; exact ⟨l, List.mem_of_getElem? hl, h⟩
      generalize l.waits = p at hcall htk hno
      have Hcall := Lib.hid hcall
      have Htk := Lib.hid htk
      have Hno := Lib.hid hno
      have hj0 : (0 : Int) ≤ (j : Int) := by omega
      have hj1 : (j : Int) < (fs.length : Int) := by omega
      obtain ⟨st, tr, nx, cr, op⟩ := l
      simp only at y0 y1 y2 y3 y4
      clear hcall htk hno hall hl
      cases p
      · go_wp2_with fail
        refine (Hcall.out _).mono ?_; rintro e w2 ⟨rfl, hb2⟩
        go_wp2
        go_roundw
        case rel => exact ⟨j + 1, by omega, by simp, Htk.out (by trivial), hbw.trans (hb2.mono hbw.size)⟩
        case measure => simp [intOf] <;> omega
      · go_wp2_with fail
        refine (Hcall.out _).mono ?_; rintro e w2 ⟨rfl, hb2⟩
        go_wp2
        go_ret
        exact ⟨⟨_, rfl, .inl ⟨hj0, Hno.out (by trivial)⟩⟩, hbw.trans (hb2.mono hbw.size)⟩
    · have hje : j = fs.length := by omega
      subst hje
      rw [List.take_of_length_le (Nat.le_refl _)] at hall
      have Hall := Lib.hid hall
      clear hall
      go_wp2
      go_ret
      exact ⟨⟨_, rfl, .inr ⟨rfl, Hall.out⟩⟩, hbw⟩
set_option maxHeartbeats 4000000 in
theorem containsWaits_calls (v : Value) (fs : List FateD) (w : World) (hv : RdF w v fs) :
    Calls Tryz.prog 64 #[v, .func (.func 65) #[] #[]] w fun e w' => e = .returned (.bool (fs.any FateD.waits)) ∧ Below w.heap.size w w' := by
  have h1 := indexWaits_calls v fs w hv
  generalize fs.any FateD.waits = p at h1
  have H1 := Lib.hid h1
  clear h1 hv
  go_enter Tryz.func64, Tryz.ntmps64
  go_wp2_with fail
  refine (H1.out).mono ?_; rintro e w1 ⟨⟨i, rfl, hi⟩, hb1⟩
  rcases hi with ⟨h0, rfl⟩ | ⟨rfl, rfl⟩
  · go_wp2
    go_ret
    exact ⟨by first | rfl | simp [h0], hb1⟩
  · go_wp2
    go_ret
    exact ⟨rfl, hb1⟩
/-- A file that came in by value, in a block of its own. -/
theorem file_box (f : FileD) (vr vb vm : Value) (w : World) : Below w.heap.size w (w.alloc (.cells #[.int .i64 f.mail.id, .int .i64 f.mail.parent, .int .i64 f.mail.born, .string (strL f.mail.frm), vr, vb, vm, .int .i64 (f.good : Int)] 43)) ∧
    (w.alloc (.cells #[.int .i64 f.mail.id, .int .i64 f.mail.parent, .int .i64 f.mail.born, .string (strL f.mail.frm), vr, vb, vm, .int .i64 (f.good : Int)] 43)).heap[w.heap.size]? = some (.cells #[.int .i64 f.mail.id, .int .i64 f.mail.parent, .int .i64 f.mail.born, .string (strL f.mail.frm), vr, vb, vm, .int .i64 (f.good : Int)] 43 (0, 0)) :=
  ⟨(Below.refl _ _).alloc (Nat.le_refl _) _, heap_alloc_new w _⟩
set_option maxHeartbeats 4000000 in
theorem fileOver_calls (f : FileD) (vr vb vm : Value) (w : World) (hr : RdS w vr f.mail.rcpts) (hm : RdM w vm f.marks) (hbf : ∃ a c, vb = .slice a f.mail.body.length c) :
    Calls Tryz.prog 36 #[fileVal f vr vb vm] w fun e w' => e = .returned (.bool (!f.fates.any FateD.waits)) ∧ Below w.heap.size w w' := by
  obtain ⟨ar, capr, rfl, _, _⟩ := hr.form
  obtain ⟨am, capm, rfl, _, _⟩ := hm.form
  obtain ⟨ab, capb, rfl⟩ := hbf
  obtain ⟨hbW, hF⟩ := file_box f (.slice ar f.mail.rcpts.length capr) (.slice ab f.mail.body.length capb) (.slice am f.marks.length capm) w
  obtain ⟨W, hW⟩ : ∃ W, w.alloc (.cells #[.int .i64 f.mail.id, .int .i64 f.mail.parent, .int .i64 f.mail.born, .string (strL f.mail.frm), .slice ar f.mail.rcpts.length capr, .slice ab f.mail.body.length capb, .slice am f.marks.length capm, .int .i64 (f.good : Int)] 43) = W := ⟨_, rfl⟩
  rw [hW] at hbW hF
  obtain ⟨c0, c1, c2, c3, c4, c5, c6, c7⟩ := (cells8 hF).1
  have hcall := fileFates_calls f (.slice ar f.mail.rcpts.length capr) (.slice ab f.mail.body.length capb) (.slice am f.marks.length capm) W (hr.below (Nat.le_refl _) hbW) (hm.below (Nat.le_refl _) hbW)
  generalize f.fates = fs at hcall
  obtain ⟨p, hp⟩ : ∃ p, fs.any FateD.waits = p := ⟨_, rfl⟩
  rw [hp]
  have Hp := Lib.hid hp
  clear hp
  have Hcall := Lib.hid hcall
  have HbW := Lib.hid hbW
  clear hcall hbW hF hr hm
  subst hW
  go_enter Tryz.func36, Tryz.ntmps36
  go_wp2_with fail
  refine (Hcall.out).mono ?_; rintro e w1 ⟨g, cap, rfl, hown, hb1⟩
  have hbw1 := HbW.out.trans (hb1.mono HbW.out.size)
  have hcc := containsWaits_calls _ fs w1 (rdL_ofOwn fate_len (by decide) hown)
  rw [Hp.out] at hcc
  have Hcc := Lib.hid hcc
  clear hcc hown
  go_wp2_with fail
  refine (Hcc.out).mono ?_; rintro e w2 ⟨rfl, hb2⟩
  go_wp2
  go_ret
  exact ⟨rfl, hbw1.trans (hb2.mono hbw1.size)⟩
/-- A number's cell. -/
def i1 (n : Nat) : List Value := [.int .i64 (n : Int)]
theorem i1_len (n : Nat) : (i1 n).length = 1 := rfl
abbrev RdI := RdL 1 i1
theorem RdI.at {w : World} {v : Value} {ls : List Nat} (h : RdI w v ls) {i l : Nat} (hl : ls[i]? = some l) :
    ∃ b off cap, v = .slice (some ⟨b, off, none⟩) ls.length cap ∧ b < w.heap.size ∧ w.cell? ⟨b, off + i, none⟩ = some (.int .i64 (l : Int)) := by
  obtain ⟨b, off, cap, h1, h2, h3⟩ := RdL.at h hl
  have := h3 0 _ rfl
  rw [Nat.mul_one, Nat.add_zero] at this
  exact ⟨b, off, cap, h1, h2, this⟩
set_option maxHeartbeats 4000000 in
theorem refInts_calls (v1 v2 : Value) (xs : List Nat) (w : World) (h1 : RdI w v1 xs) (h2 : RdI w v2 xs) :
    Calls Tryz.prog 33 #[v1, v2] w fun e w' => e = .returned (.bool true) ∧ Below w.heap.size w w' := by
  obtain ⟨a1, cap1, rfl, hl1, hc1⟩ := h1.form
  obtain ⟨a2, cap2, rfl, hl2, hc2⟩ := h2.form
  have H1 := Lib.hid h1
  have H2 := Lib.hid h2
  have hni : (xs.length : Int) ≤ 9223372036854775807 := by omega
  clear h1 h2
  go_enter Tryz.func33, Tryz.ntmps33
  go_wp2
  go_loopw [5] (fun i wr => ∃ j : Nat, j ≤ xs.length ∧ i = .int .i64 j ∧ Below w.heap.size w wr) (fun i _ => xs.length - (intOf i).toNat)
  case atStart => exact ⟨0, Nat.zero_le _, rfl, Below.refl _ _⟩
  case round =>
    obtain ⟨j, hj, rfl, hbw⟩ := hrel
    by_cases hlt : j < xs.length
    · obtain ⟨x, hx⟩ : ∃ x, xs[j]? = some x := ⟨_, List.getElem?_eq_getElem hlt⟩
      obtain ⟨b1, o1, k1, e1, _, p1⟩ := RdI.at (H1.out.below (Nat.le_refl _) hbw) hx
      obtain ⟨b2, o2, k2, e2, _, p2⟩ := RdI.at (H2.out.below (Nat.le_refl _) hbw) hx
      cases e1
      simp only [Value.slice.injEq] at e2
      obtain ⟨rfl, _, rfl⟩ := e2
      have hj0 : (0 : Int) ≤ (j : Int) := by omega
      have hj1 : (j : Int) < (xs.length : Int) := by omega
      clear hx
      go_wp2
      go_quiet (fail)
      go_wp2
      go_roundw
      case rel => exact ⟨j + 1, by omega, by simp, below_drewN hbw _⟩
      case measure => simp [intOf] <;> omega
    · have hjl : ¬ ((j : Int) < (xs.length : Int)) := by omega
      go_wp2
      go_ret
      exact ⟨rfl, hbw⟩
end Go.Proofs.YtjddicoigbidlaaGreatDoor
