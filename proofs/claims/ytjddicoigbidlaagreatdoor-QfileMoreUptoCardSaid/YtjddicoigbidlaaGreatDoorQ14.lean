/-
  The walk of pillarboxref10.Good.
  The walk of pillarboxref10.Begins.
  The walk of pillarboxref10.Record.
  The walk of pillarboxlaw10.one.
  The walk of pillarboxlaw10.answers.
-/
import Derived.Test.YtjddicoigbidlaaGreatDoorQ5
import Derived.Test.YtjddicoigbidlaaGreatDoorQ8
import Derived.Test.YtjddicoigbidlaaGreatDoorQ9
import Derived.Lib.SlBytesConst
set_option linter.unusedSimpArgs false
set_option linter.unusedVariables false
namespace Go.Proofs.YtjddicoigbidlaaGreatDoor
open Go.RowKit
set_option maxRecDepth 100000 in
set_option maxHeartbeats 8000000 in
theorem refGood_calls (m : MailD) (vr vb : Value) (w : World) (hr : RdS w vr m.rcpts) (hb : RdB w vb m.body) (hsr : ∀ l ∈ m.rcpts, l.length ≤ 4294967270) (hsf : m.frm.length ≤ 4294967270) :
    Calls Tryz.prog 16 #[mailVal m vr vb] w fun e w' => e = .returned (.bool m.good) ∧ Below w.heap.size w w' := by
  obtain ⟨ar, capr, rfl, hlr, hcr⟩ := hr.form
  obtain ⟨ab, capb, rfl, hlb, hcb⟩ := hb.form
  obtain ⟨g, hg⟩ : ∃ g, m.good = g := ⟨_, rfl⟩
  rw [hg]
  obtain ⟨id, parent, born, frm, rcpts, body⟩ := m
  simp only at hr hb hsr hsf hlr hlb
  unfold MailD.good at hg
  unfold mailVal
  simp only at hg ⊢
  obtain ⟨W, hW⟩ : ∃ W, w.alloc (.cells #[.int .i64 id, .int .i64 parent, .int .i64 born, .string (strL frm), .slice ar rcpts.length capr, .slice ab body.length capb] 25) = W := ⟨_, rfl⟩
  have hbW : Below w.heap.size w W := by rw [← hW]; exact (Below.refl _ _).alloc (Nat.le_refl _) _
  have hblk : W.heap[w.heap.size]? = some (.cells #[.int .i64 id, .int .i64 parent, .int .i64 born, .string (strL frm), .slice ar rcpts.length capr, .slice ab body.length capb] 25 (0, 0)) := by rw [← hW]; exact heap_alloc_new w _
  have hbd := refBody_calls (.slice ab body.length capb) body W (hb.below (Nat.le_refl _) hbW)
  have hbx := fun W => refBox_calls (strL frm) W (by rw [strL_size]; exact hsf)
  have hbr := fun (l : List UInt8) W (h : l ∈ rcpts) => refBox_calls (strL l) W (by rw [strL_size]; exact hsr l h)
  simp only [strL_data] at hbx hbr
  have hcell : ∀ W', Below W.heap.size W W' → ∀ (j : Nat) v, (#[Value.int .i64 id, .int .i64 parent, .int .i64 born, .string (strL frm), .slice ar rcpts.length capr, .slice ab body.length capb] : Array Value)[j]? = some v → W'.cell? ⟨w.heap.size, j, none⟩ = some v := by
    intro W' hB j v hv
    rw [cell_of_row _ _ _ _ _ _ ((hB.block _ (Array.getElem?_eq_some_iff.1 hblk).1).trans hblk)]
    exact hv
  have hRW : ∀ W', Below W.heap.size W W' → RdS W' (.slice ar rcpts.length capr) rcpts := fun W' hB => (hr.below (Nat.le_refl _) hbW).below (Nat.le_refl _) hB
  have c0 := hcell W (Below.refl _ _) 0 _ rfl
  have c1 := hcell W (Below.refl _ _) 1 _ rfl
  have c2 := hcell W (Below.refl _ _) 2 _ rfl
  have c4 := hcell W (Below.refl _ _) 4 _ rfl
  have c5 := hcell W (Below.refl _ _) 5 _ rfl
  have hsf0 := strL_size frm
  generalize bodyB body = p6 at hbd hg
  generalize boxB frm = p8 at hbx hg
  have Hg := Lib.hid hg
  have Hbd := Lib.hid hbd
  have Hbx := Lib.hid hbx
  have Hbr := Lib.hid hbr
  have Hcell := Lib.hid hcell
  have HRW := Lib.hid hRW
  have hfl : frm.length = 0 ↔ (strL frm).size = 0 := by rw [hsf0]
  have Hfl := Lib.hid hfl
  clear hg hbd hbx hbr hcell hRW hr hb hsr hsf hblk hsf0 hfl
  have hlri : (rcpts.length : Int) ≤ 9223372036854775807 := by omega
  have hlbi : (body.length : Int) ≤ 9223372036854775807 := by omega
  by_cases k0 : id < 1
  · have hgf := Hg.out
    rw [decide_eq_false (by omega : ¬ (1 ≤ id ∧ id ≤ 999999999))] at hgf
    simp only [Bool.false_and, Bool.and_false] at hgf
    subst hgf
    clear Hg
    go_enter Tryz.func16, Tryz.ntmps16
    go_wp2
    go_ret
    exact ⟨rfl, hbW⟩
  by_cases k1 : 999999999 < id
  · have hgf := Hg.out
    rw [decide_eq_false (by omega : ¬ (1 ≤ id ∧ id ≤ 999999999))] at hgf
    simp only [Bool.false_and, Bool.and_false] at hgf
    subst hgf
    clear Hg
    go_enter Tryz.func16, Tryz.ntmps16
    go_wp2
    go_ret
    exact ⟨rfl, hbW⟩
  by_cases k2 : parent < 0
  · have hgf := Hg.out
    rw [decide_eq_false (by omega : ¬ (0 ≤ parent ∧ parent ≤ id - 1))] at hgf
    simp only [Bool.false_and, Bool.and_false] at hgf
    subst hgf
    clear Hg
    go_enter Tryz.func16, Tryz.ntmps16
    go_wp2
    go_ret
    exact ⟨rfl, hbW⟩
  by_cases k3 : id ≤ parent
  · have hgf := Hg.out
    rw [decide_eq_false (by omega : ¬ (0 ≤ parent ∧ parent ≤ id - 1))] at hgf
    simp only [Bool.false_and, Bool.and_false] at hgf
    subst hgf
    clear Hg
    go_enter Tryz.func16, Tryz.ntmps16
    go_wp2
    go_ret
    exact ⟨rfl, hbW⟩
  by_cases k4 : born < 0
  · have hgf := Hg.out
    rw [decide_eq_false (by omega : ¬ (0 ≤ born ∧ born ≤ 1099511627776))] at hgf
    simp only [Bool.false_and, Bool.and_false] at hgf
    subst hgf
    clear Hg
    go_enter Tryz.func16, Tryz.ntmps16
    go_wp2
    go_ret
    exact ⟨rfl, hbW⟩
  by_cases k5 : 1099511627776 < born
  · have hgf := Hg.out
    rw [decide_eq_false (by omega : ¬ (0 ≤ born ∧ born ≤ 1099511627776))] at hgf
    simp only [Bool.false_and, Bool.and_false] at hgf
    subst hgf
    clear Hg
    go_enter Tryz.func16, Tryz.ntmps16
    go_wp2
    go_ret
    exact ⟨rfl, hbW⟩
  by_cases k6 : (rcpts.length : Int) < 1
  · have hgf := Hg.out
    rw [decide_eq_false (by omega : ¬ (1 ≤ (rcpts.length : Int) ∧ (rcpts.length : Int) ≤ 8))] at hgf
    simp only [Bool.false_and, Bool.and_false] at hgf
    subst hgf
    clear Hg
    go_enter Tryz.func16, Tryz.ntmps16
    go_wp2
    go_ret
    exact ⟨rfl, hbW⟩
  by_cases k7 : 8 < (rcpts.length : Int)
  · have hgf := Hg.out
    rw [decide_eq_false (by omega : ¬ (1 ≤ (rcpts.length : Int) ∧ (rcpts.length : Int) ≤ 8))] at hgf
    simp only [Bool.false_and, Bool.and_false] at hgf
    subst hgf
    clear Hg
    go_enter Tryz.func16, Tryz.ntmps16
    go_wp2
    go_ret
    exact ⟨rfl, hbW⟩
  by_cases k8 : 8192 < (body.length : Int)
  · have hgf := Hg.out
    rw [decide_eq_false (by omega : ¬ (body.length ≤ 8192))] at hgf
    simp only [Bool.false_and, Bool.and_false] at hgf
    subst hgf
    clear Hg
    go_enter Tryz.func16, Tryz.ntmps16
    go_wp2
    go_ret
    exact ⟨rfl, hbW⟩
  have hg := Hg.out
  rw [decide_eq_true (by omega : 1 ≤ id ∧ id ≤ 999999999)] at hg
  rw [decide_eq_true (by omega : 0 ≤ parent ∧ parent ≤ id - 1)] at hg
  rw [decide_eq_true (by omega : 0 ≤ born ∧ born ≤ 1099511627776)] at hg
  rw [decide_eq_true (by omega : 1 ≤ (rcpts.length : Int) ∧ (rcpts.length : Int) ≤ 8)] at hg
  rw [decide_eq_true (by omega : body.length ≤ 8192)] at hg
  simp only [Bool.true_and] at hg
  have Hg2 := Lib.hid hg
  clear Hg hg
  cases p6
  · have hgf := Hg2.out
    simp only [Bool.false_and] at hgf
    subst hgf
    clear Hg2
    go_enter Tryz.func16, Tryz.ntmps16
    go_wp2_with fail
    refine (Hbd.out).mono ?_; rintro e w6 ⟨rfl, rfl⟩
    go_wp2
    go_ret
    exact ⟨rfl, hbW⟩
  go_enter Tryz.func16, Tryz.ntmps16
  go_wp2_with fail
  refine (Hbd.out).mono ?_; rintro e w6 ⟨rfl, hw6⟩
  subst hw6
  go_wp2
  go_loopw [3] (fun i wr => ∃ j : Nat, j ≤ rcpts.length ∧ i = .int .i64 j ∧ (rcpts.take j).all boxB = true ∧ Below w6.heap.size w6 wr) (fun i _ => rcpts.length - (intOf i).toNat)
  case atStart => exact ⟨0, Nat.zero_le _, rfl, rfl, Below.refl _ _⟩
  case round =>
    obtain ⟨j, hj, rfl, hall, hbw⟩ := hrel
    have c4' := Hcell.out wr hbw 4 _ rfl
    have c3' := Hcell.out wr hbw 3 _ rfl
    have hbw' := hbW.trans (hbw.mono hbW.size)
    by_cases hlt : j < rcpts.length
    · obtain ⟨l, hl⟩ : ∃ l, rcpts[j]? = some l := ⟨_, List.getElem?_eq_getElem hlt⟩
      obtain ⟨b, off, cap', hsl, hbl, hc⟩ := RdS.at (HRW.out wr hbw) hl
      cases hsl
      have hcall := fun W => Hbr.out l W (List.mem_of_getElem? hl)
      have htk : boxB l = true → (rcpts.take (j + 1)).all boxB = true := fun h => by rw [take_snoc hl, List.all_append, hall]; simpa using h
      have hno : boxB l = false → g = false := fun h => by
        have : rcpts.all boxB = false := by rw [List.all_eq_false]; exact ⟨l, List.mem_of_getElem? hl, by rw [h]; simp⟩
        rw [← Hg2.out, this]; simp
      generalize boxB l = q at hcall htk hno
      have Hcall := Lib.hid hcall
      have Htk := Lib.hid htk
      have Hno := Lib.hid hno
      have hj0 : (0 : Int) ≤ (j : Int) := by omega
      have hj1 : (j : Int) < (rcpts.length : Int) := by omega
      clear hcall htk hno hall hl
      generalize strL l = sl at hc Hcall
      cases q
      · go_wp2_with fail
        refine (Hcall.out _).mono ?_; rintro e w7 ⟨rfl, hb7⟩
        go_wp2
        go_ret
        exact ⟨by rw [Hno.out (by trivial)]; rfl, hbw'.trans (hb7.mono hbw'.size)⟩
      · go_wp2_with fail
        refine (Hcall.out _).mono ?_; rintro e w7 ⟨rfl, hb7⟩
        go_wp2
        go_roundw
        case rel => exact ⟨j + 1, by omega, by simp, Htk.out (by trivial), hbw.trans (hb7.mono hbw.size)⟩
        case measure => simp [intOf] <;> omega
    · have hje : j = rcpts.length := by omega
      rw [hje, List.take_of_length_le (Nat.le_refl _)] at hall
      have hg2 := Hg2.out
      rw [hall, Bool.and_true, Bool.true_and] at hg2
      have hjn : (j : Int) = (rcpts.length : Int) := by omega
      have Hg3 := Lib.hid hg2
      have hjl : ¬ ((j : Int) < (rcpts.length : Int)) := by omega
      clear hall hg2 hje hjn
      by_cases h7 : frm.length = 0
      · have hz := empty_of_size (Hfl.out.1 h7)
        rw [hz] at c3'
        have hgt : g = true := by rw [← Hg3.out, decide_eq_true h7]; rfl
        subst hgt
        clear hz h7 Hg2
        go_wp2
        go_ret
        exact ⟨rfl, hbw'⟩
      · have hne : (strL frm).size ≠ 0 := fun h => h7 (Hfl.out.2 h)
        have hb1 := empty_ne hne
        have hb2 : (strL frm).toList.isEmpty = false := by simpa using hb1
        have hgt : g = p8 := by rw [← Hg3.out, decide_eq_false h7]; rfl
        subst hgt
        clear h7 hne Hg2
        go_wp2_with fail
        refine (Hbx.out _).mono ?_; rintro e w8 ⟨rfl, hb8⟩
        go_wp2
        go_ret
        exact ⟨rfl, hbw'.trans (hb8.mono hbw'.size)⟩
end Go.Proofs.YtjddicoigbidlaaGreatDoor

set_option linter.unusedSimpArgs false
set_option linter.unusedVariables false
namespace Go.Proofs.YtjddicoigbidlaaGreatDoor
open Go.RowKit
theorem eye_new {w : World} {v : Value} {bs : List UInt8} (h : RdB w v bs) (hn : NilOk v) (hl : ∀ k, v.ownBlock = some k → k < w.heap.size) :
    EySt (w.alloc (.cells #[v, .bool false] 89)) w.heap.size v.ownBlock (some bs) :=
  EySt.start ⟨heap_alloc_new w _, h.below (Nat.le_refl _) ((Below.refl _ _).alloc (Nat.le_refl _) _), fun e => by have := hl _ e; omega⟩ hn (fun k e => by have := hl k e; simp; omega)
/-- What stays while the checksum is compared. -/
def BgRest (w0 : World) (v4 : Value) (q : List UInt8) (w : World) : Prop := Below w0.heap.size w0 w ∧ RdB w v4 q
abbrev BgS (w0 : World) (X : Nat) (vx v4 : Value) (q : List UInt8) (sq : ByteArray) (w : World) : Prop :=
  w.cell? ⟨X, 0, none⟩ = some vx ∧ w.cell? ⟨X, 1, none⟩ = some (.bool false) ∧ (convert 23 9 v4).run Tryz.prog w = .ok (.string sq) w ∧ BgRest w0 v4 q w
theorem BgS.go {w0 w w' : World} {X : Nat} {vx v4 : Value} {q : List UInt8} {sq : ByteArray} (hq : Hid (strL q = sq)) (hb : Below w.heap.size w w') (h : BgS w0 X vx v4 q sq w) : BgS w0 X vx v4 q sq w' := by
  have hq := hq.out
  subst hq
  obtain ⟨h1, h2, _, h3, h4⟩ := h
  have l1 := World.block_lt_of_cell? w ⟨X, 0, none⟩ h1
  obtain ⟨cc, f⟩ := below_cell hb
  have h4' := h4.below (Nat.le_refl _) hb
  exact ⟨(cc _ _ l1).trans h1, (cc _ _ l1).trans h2, run_strL h4', h3.trans (hb.mono h3.size), h4'⟩
set_option maxRecDepth 100000 in
set_option maxHeartbeats 16000000 in
theorem refBegins_calls (v : Value) (bs : List UInt8) (w : World) (hv : RdB w v bs) (hlen : bs.length ≤ 100000000) (hnv : NilOk v) (hol : ∀ k, v.ownBlock = some k → k < w.heap.size) :
    Calls Tryz.prog 21 #[v] w (DecRes w (decodeMail bs)) := by
  obtain ⟨i0, hi, hz0, hz1, hz2⟩ := info_parts infoStr
  obtain ⟨a, cap, rfl, hl, hc⟩ := hv.form
  have hz : ∀ w, (zeroValue 25).run Tryz.prog w = .ok (.agg #[.int .i64 0, .int .i64 0, .int .i64 0, .string ⟨#[]⟩, .slice none 0 0, .slice none 0 0]) w := fun _ => by kernel_rfl
  obtain ⟨r, hr⟩ : ∃ r, decodeMail bs = r := ⟨_, rfl⟩
  rw [hr]
  rw [decodeMail] at hr
  have hsh := fun q (h : (bytesO (some bs)).2 = some q) => bytesO_shape bs h
  have hle := (bytesO_left (o := some bs) (L := 100000000) (fun q e => by cases e; exact hlen)).1
  have hb0 : Below w.heap.size w (w.alloc (.cells #[.int .i64 0, .int .i64 0, .int .i64 0, .string ⟨#[]⟩, .slice none 0 0, .slice none 0 0] 25)) := (Below.refl _ _).alloc (Nat.le_refl _) _
  have hx0 := eye_new (hv.below (Nat.le_refl _) hb0) hnv (fun k e => by have := hol k e; simp; omega)
  have hcall := eBytesS hx0 (fun q e => by cases e; omega)
  have hM0 : ((w.alloc (.cells #[.int .i64 0, .int .i64 0, .int .i64 0, .string ⟨#[]⟩, .slice none 0 0, .slice none 0 0] 25)).alloc (.cells #[.slice a bs.length cap, .bool false] 89)).heap[w.heap.size]? = some (.cells #[.int .i64 0, .int .i64 0, .int .i64 0, .string ⟨#[]⟩, .slice none 0 0, .slice none 0 0] 25 (0, 0)) := heap_alloc2_old w _ _
  have hbx : Below w.heap.size w ((w.alloc (.cells #[.int .i64 0, .int .i64 0, .int .i64 0, .string ⟨#[]⟩, .slice none 0 0, .slice none 0 0] 25)).alloc (.cells #[.slice a bs.length cap, .bool false] 89)) := hb0.alloc (by simp) _
  simp only [World.size_alloc] at hcall
  generalize bytesO (some bs) = P at hr hsh hle hcall
  obtain ⟨I, o⟩ := P
  have Hr := Lib.hid hr
  have Hsh := Lib.hid hsh
  have Hle := Lib.hid hle
  have Hcall := Lib.hid hcall
  have HM0 := Lib.hid hM0
  have Hbx := Lib.hid hbx
  have hbsl : (bs.length : Int) ≤ 100000000 := by omega
  generalize (Value.slice a bs.length cap).ownBlock = ob at *
  clear hr hsh hle hcall hM0 hbx hx0 hb0 hv hol
  go_enter Tryz.func21, Tryz.ntmps21
  go_wp2_with fail
  refine (Hcall.out).mono ?_; rintro e w1 ⟨vi, rfl, hoI, hx1, hK1⟩
  have hle := Hle.out
  simp only at hoI hx1 hle ⊢
  have hM1 := hK1.heap HM0.out (by omega)
  have hbw1 : Below w.heap.size w w1 := Hbx.out.trans (hK1.below (B := w.heap.size) (fun i hi => by omega) Hbx.out.size)
  obtain ⟨ai, ci, hvi⟩ := own_form0 hoI
  subst hvi
  obtain ⟨vx, xs, badx, hEx, hobx, hox, hnx, hlx⟩ := hx1
  obtain ⟨x0, x1, -, -⟩ := hEx.cells
  obtain ⟨ax, cx, rfl, hcx1, hcx2⟩ := hEx.rd.form
  have hrx := hEx.rd
  have HM1 := Lib.hid hM1
  have HoI := Lib.hid hoI
  have hi1 : (I.length : Int) ≤ 100000000 := by omega
  clear hM1 hoI Hcall hEx hobx
  cases o with
  | none =>
    have hrn : r = none := Hr.out.symm
    subst hrn
    have hbt : badx = true := by cases badx; cases hox; rfl
    subst hbt
    go_wp2_with fail
    go_quiet (fail)
    rename_i nq
    obtain ⟨⟨y0, y1, y2, y3, y4, y5⟩, z0, z1, z2, z3, z4, z5⟩ := cells6 (show (w1.drewN nq).heap[w.heap.size]? = _ from HM1.out)
    go_wp2
    have hB5 := heap6 ⟨_, _, _, _, _, _, (show (w1.drewN nq).heap[w.heap.size]? = _ from HM1.out)⟩ (.int .i64 0) (.int .i64 0) (.int .i64 0) (.string ⟨#[]⟩) (.slice none 0 0) (.slice none 0 0)
    refine bodyPost_ret (results_row_tmp2 rfl _ _ w.heap.size 25 _ (0, 0) _ rfl hB5 Tryz.underlying25 rfl (by kernel_rfl)) rfl (decRes_none rfl ?_)
    exact ((((((below_drewN hbw1 nq).setCell (by exact Nat.le_refl _) _).setCell (by exact Nat.le_refl _) _).setCell (by exact Nat.le_refl _) _).setCell (by exact Nat.le_refl _) _).setCell (by exact Nat.le_refl _) _).setCell (by exact Nat.le_refl _) _
  | some rest =>
    have hbf : badx = false := by cases badx; rfl; cases hox
    subst hbf
    have hxs : rest = xs := Option.some.inj hox
    subst hxs
    have hr0 := Hr.out
    simp only at hr0
    clear Hr hox
    by_cases h4 : rest.length < 4
    · rw [if_pos h4] at hr0
      subst hr0
      have hlt : decide ((rest.length : Int) < 4) = true := by simp; omega
      go_wp2_with fail
      go_quiet (fail)
      rename_i nq
      obtain ⟨⟨y0, y1, y2, y3, y4, y5⟩, z0, z1, z2, z3, z4, z5⟩ := cells6 (show (w1.drewN nq).heap[w.heap.size]? = _ from HM1.out)
      go_wp2
      have hB5 := heap6 ⟨_, _, _, _, _, _, (show (w1.drewN nq).heap[w.heap.size]? = _ from HM1.out)⟩ (.int .i64 0) (.int .i64 0) (.int .i64 0) (.string ⟨#[]⟩) (.slice none 0 0) (.slice none 0 0)
      refine bodyPost_ret (results_row_tmp2 rfl _ _ w.heap.size 25 _ (0, 0) _ rfl hB5 Tryz.underlying25 rfl (by kernel_rfl)) rfl (decRes_none rfl ?_)
      exact ((((((below_drewN hbw1 nq).setCell (by exact Nat.le_refl _) _).setCell (by exact Nat.le_refl _) _).setCell (by exact Nat.le_refl _) _).setCell (by exact Nat.le_refl _) _).setCell (by exact Nat.le_refl _) _).setCell (by exact Nat.le_refl _) _
    · rw [if_neg h4] at hr0
      have hge : decide ((rest.length : Int) < 4) = false := by simp; omega
      have hsl : ∀ w, (Instr.sliceAt 23 (.slice ax rest.length cx) none (some (.int .i64 4)) none).run Tryz.prog w = .ok (.slice ax 4 cx) w := run_slice_h (P := Tryz.prog) Tryz.underlying23 u8size ax rest.length cx 4 (by omega)
      have hp4 := hrx.pre 4 (by omega)
      obtain ⟨sb, hsb⟩ : ∃ sb, be4 (PbCrc.sum I) = sb := ⟨_, rfl⟩
      have hsm := fun W h => refSum_calls (.slice ai I.length ci) I W h
      rw [hsb] at hsm hr0
      generalize rest.take 4 = q at hr0 hp4
      have hS : BgS w1 (w.heap.size + 1) (.slice ax rest.length cx) (.slice ax 4 cx) q (strL q) w1.drew := BgS.go rfl ((Below.refl _ _).drew) ⟨x0, x1, run_strL hp4, Below.refl _ _, hp4⟩
      have hrI : Hid (∀ W, Below w1.heap.size w1 W → RdB W (.slice ai I.length ci) I) := fun W h => (rdB_ofOwn HoI.out).below (Nat.le_refl _) h
      obtain ⟨eq, heq⟩ : ∃ eq, decide (q = sb) = eq := ⟨_, rfl⟩
      have hcmp : ((strL q).toList == (strL sb).toList) = eq := by
        cases eq
        · exact (Lib.bytes_beq_false_iff _ _).2 (fun e => of_decide_eq_false heq (strL_inj e))
        · rw [of_decide_eq_true heq]; simp
      have hcmp2 : (!((strL q).toList == (strL sb).toList)) = !eq := by rw [hcmp]
      have hcmp3 : ((strL q).toList != (strL sb).toList) = !eq := by rw [bne, hcmp]
      have hcvs := fun W v' (h : RdB W v' sb) => run_strL h
      generalize hsq : strL q = sq at hcmp hcmp2 hcmp3 hS
      have Hsq := Lib.hid hsq
      generalize strL sb = ss at hcmp hcmp2 hcmp3 hcvs
      have Hsm := Lib.hid hsm
      have Heq := Lib.hid heq
      have Hr0 := Lib.hid hr0
      have H4 := Lib.hid h4
      have HS := Lib.hid hS
      have Hcvs := Lib.hid hcvs
      clear hsq hsm heq hr0 hp4 hsb h4 hS hcvs
      have getB : Hid (∀ W, (W.cell? ⟨w.heap.size + 1, 0, none⟩ = some (.slice ax rest.length cx) ∧ W.cell? ⟨w.heap.size + 1, 1, none⟩ = some (.bool false) ∧ (convert 23 9 (.slice ax 4 cx)).run Tryz.prog W = .ok (.string sq) W ∧ BgRest w1 (.slice ax 4 cx) q W) → Below w1.heap.size w1 W) := fun _ h => h.2.2.2.1
      cases eq
      all_goals
        simp only [Bool.not_false, Bool.not_true] at hcmp2 hcmp3
        go_wp2_with fail
        refine wp_region_noPanic ?_
        refine wp_region_held_drew (S := (fun w' => w'.cell? ⟨w.heap.size + 1, 0, none⟩ = some (.slice ax rest.length cx) ∧ w'.cell? ⟨w.heap.size + 1, 1, none⟩ = some (.bool false) ∧ (convert 23 9 (.slice ax 4 cx)).run Tryz.prog w' = .ok (.string sq) w' ∧ BgRest w1 (.slice ax 4 cx) q w')) (by kernel_rfl) (by first | with_reducible exact HS.out | with_reducible assumption | with_reducible exact BgS.go Hsq (by assumption) (by assumption)) (fun hHeld => ?_)
        refine wpAnyH_take (i := 0) (oi := _) (v := ?_) (by simp only [List.getElem?_toArray, List.getElem?_cons_succ, List.getElem?_cons_zero]; rfl) (by kernel_rfl) (by kernel_rfl) (by kernel_rfl) (fun _ _ _ h => h) (Or.inl ⟨by rfl, ?_⟩) (by assumption) ?_
        rotate_left
        · intro w hSw; (try dsimp only at hSw); go_simp; (try with_reducible rfl)
        try simp only [Act.put, List.setIfInBounds_toArray, List.set_cons_zero, List.set_cons_succ]
        refine wpAnyH_take (i := 1) (oi := _) (v := ?_) (by simp only [List.getElem?_toArray, List.getElem?_cons_succ, List.getElem?_cons_zero]; rfl) (by kernel_rfl) (by kernel_rfl) (by kernel_rfl) (fun _ _ _ h => h) (Or.inl ⟨by rfl, ?_⟩) (by assumption) ?_
        rotate_left
        · intro w hSw; (try dsimp only at hSw); go_simp; (try with_reducible rfl)
        try simp only [Act.put, List.setIfInBounds_toArray, List.set_cons_zero, List.set_cons_succ]
        refine wpAnyH_take (i := 2) (oi := _) (v := ?_) (by simp only [List.getElem?_toArray, List.getElem?_cons_succ, List.getElem?_cons_zero]; rfl) (by kernel_rfl) (by kernel_rfl) (by kernel_rfl) (fun _ _ _ h => h) (Or.inl ⟨by rfl, ?_⟩) (by assumption) ?_
        rotate_left
        · intro w hSw; (try dsimp only at hSw); go_simp; (try with_reducible rfl)
        try simp only [Act.put, List.setIfInBounds_toArray, List.set_cons_zero, List.set_cons_succ]
        refine wpAnyH_take (i := 3) (oi := _) (v := ?_) (by simp only [List.getElem?_toArray, List.getElem?_cons_succ, List.getElem?_cons_zero]; rfl) (by kernel_rfl) (by kernel_rfl) (by kernel_rfl) (fun _ _ _ h => h) (Or.inl ⟨by rfl, ?_⟩) (by assumption) ?_
        rotate_left
        · intro w hSw; (try dsimp only at hSw); go_simp; (try with_reducible rfl)
        try simp only [Act.put, List.setIfInBounds_toArray, List.set_cons_zero, List.set_cons_succ]
        refine wpAnyH_take (i := 4) (oi := _) (v := ?_) (by simp only [List.getElem?_toArray, List.getElem?_cons_succ, List.getElem?_cons_zero]; rfl) (by kernel_rfl) (by kernel_rfl) (by kernel_rfl) (fun _ _ _ h => h) (Or.inl ⟨by rfl, ?_⟩) (by assumption) ?_
        rotate_left
        · intro w hSw; (try dsimp only at hSw); go_simp; (try with_reducible rfl)
        try simp only [Act.put, List.setIfInBounds_toArray, List.set_cons_zero, List.set_cons_succ]
        refine wpAnyH_take (i := 5) (oi := _) (v := ?_) (by simp only [List.getElem?_toArray, List.getElem?_cons_succ, List.getElem?_cons_zero]; rfl) (by kernel_rfl) (by kernel_rfl) (by kernel_rfl) (fun _ _ _ h => h) (Or.inl ⟨by rfl, ?_⟩) (by assumption) ?_
        rotate_left
        · intro w hSw; (try dsimp only at hSw); go_simp; (try with_reducible rfl)
        try simp only [Act.put, List.setIfInBounds_toArray, List.set_cons_zero, List.set_cons_succ]
        refine wpAnyH_take (i := 6) (oi := _) (v := ?_) (by simp only [List.getElem?_toArray, List.getElem?_cons_succ, List.getElem?_cons_zero]; rfl) (by kernel_rfl) (by kernel_rfl) (by kernel_rfl) (fun _ _ _ h => h) (Or.inl ⟨by rfl, ?_⟩) (by assumption) ?_
        rotate_left
        · intro w hSw; (try dsimp only at hSw); go_simp; (try with_reducible rfl)
        try simp only [Act.put, List.setIfInBounds_toArray, List.set_cons_zero, List.set_cons_succ]
        refine wpAnyH_take (i := 7) (oi := _) (v := ?_) (by simp only [List.getElem?_toArray, List.getElem?_cons_succ, List.getElem?_cons_zero]; rfl) (by kernel_rfl) (by kernel_rfl) (by kernel_rfl) (fun _ _ _ h => h) (Or.inl ⟨by rfl, ?_⟩) (by assumption) ?_
        rotate_left
        · intro w hSw; (try dsimp only at hSw); go_simp; (try with_reducible rfl)
        try simp only [Act.put, List.setIfInBounds_toArray, List.set_cons_zero, List.set_cons_succ]
        refine wpAnyH_take (i := 8) (oi := _) (v := ?_) (by simp only [List.getElem?_toArray, List.getElem?_cons_succ, List.getElem?_cons_zero]; rfl) (by kernel_rfl) (by kernel_rfl) (by kernel_rfl) (fun _ _ _ h => h) (Or.inl ⟨by rfl, ?_⟩) (by assumption) ?_
        rotate_left
        · intro w hSw; (try dsimp only at hSw); go_simp; (try with_reducible rfl)
        try simp only [Act.put, List.setIfInBounds_toArray, List.set_cons_zero, List.set_cons_succ]
        refine wpAnyH_take (i := 9) (oi := _) (v := ?_) (by simp only [List.getElem?_toArray, List.getElem?_cons_succ, List.getElem?_cons_zero]; rfl) (by kernel_rfl) (by kernel_rfl) (by kernel_rfl) (fun _ _ _ h => h) (Or.inl ⟨by rfl, ?_⟩) (by assumption) ?_
        rotate_left
        · intro w hSw; (try dsimp only at hSw); go_simp; (try with_reducible rfl)
        try simp only [Act.put, List.setIfInBounds_toArray, List.set_cons_zero, List.set_cons_succ]
        refine wpAnyH_take (i := 10) (oi := _) (v := ?_) (by simp only [List.getElem?_toArray, List.getElem?_cons_succ, List.getElem?_cons_zero]; rfl) (by kernel_rfl) (by kernel_rfl) (by kernel_rfl) (fun _ _ _ h => h) (Or.inl ⟨by rfl, ?_⟩) (by assumption) ?_
        rotate_left
        · intro w hSw; (try dsimp only at hSw); go_simp; (try with_reducible rfl)
        try simp only [Act.put, List.setIfInBounds_toArray, List.set_cons_zero, List.set_cons_succ]
        refine wpAnyH_take (i := 11) (oi := _) (v := ?_) (by simp only [List.getElem?_toArray, List.getElem?_cons_succ, List.getElem?_cons_zero]; rfl) (by kernel_rfl) (by kernel_rfl) (by kernel_rfl) (fun _ _ _ h => h) (Or.inl ⟨by rfl, ?_⟩) (by assumption) ?_
        rotate_left
        · intro w hSw; (try dsimp only at hSw); go_simp; (try with_reducible rfl)
        try simp only [Act.put, List.setIfInBounds_toArray, List.set_cons_zero, List.set_cons_succ]
        refine wpAnyH_take (i := 12) (oi := _) (v := ?_) (by simp only [List.getElem?_toArray, List.getElem?_cons_succ, List.getElem?_cons_zero]; rfl) (by kernel_rfl) (by kernel_rfl) (by kernel_rfl) (fun _ _ _ h => h) (Or.inl ⟨by rfl, ?_⟩) (by assumption) ?_
        rotate_left
        · intro w hSw; (try dsimp only at hSw); go_simp; (try with_reducible rfl)
        try simp only [Act.put, List.setIfInBounds_toArray, List.set_cons_zero, List.set_cons_succ]
        refine wpAnyH_take (i := 13) (oi := _) (v := ?_) (by simp only [List.getElem?_toArray, List.getElem?_cons_succ, List.getElem?_cons_zero]; rfl) (by kernel_rfl) (by kernel_rfl) (by kernel_rfl) (fun _ _ _ h => h) (Or.inl ⟨by rfl, ?_⟩) (by assumption) ?_
        rotate_left
        · intro w hSw; (try dsimp only at hSw); go_simp; (try with_reducible rfl)
        try simp only [Act.put, List.setIfInBounds_toArray, List.set_cons_zero, List.set_cons_succ]
        refine wpAnyH_take (i := 14) (oi := _) (v := ?_) (by simp only [List.getElem?_toArray, List.getElem?_cons_succ, List.getElem?_cons_zero]; rfl) (by kernel_rfl) (by kernel_rfl) (by kernel_rfl) (fun _ _ _ h => h) (Or.inl ⟨by rfl, ?_⟩) (by assumption) ?_
        rotate_left
        · intro w hSw; (try dsimp only at hSw); go_simp; (try with_reducible rfl)
        try simp only [Act.put, List.setIfInBounds_toArray, List.set_cons_zero, List.set_cons_succ]
        refine wpAnyH_take (i := 15) (oi := _) (v := ?_) (by simp only [List.getElem?_toArray, List.getElem?_cons_succ, List.getElem?_cons_zero]; rfl) (by kernel_rfl) (by kernel_rfl) (by kernel_rfl) (fun _ _ _ h => h) (Or.inl ⟨by rfl, ?_⟩) (by assumption) ?_
        rotate_left
        · intro w hSw; (try dsimp only at hSw); go_simp; (try with_reducible rfl)
        try simp only [Act.put, List.setIfInBounds_toArray, List.set_cons_zero, List.set_cons_succ]
        refine wpAnyH_take (i := 16) (oi := _) (v := ?_) (by simp only [List.getElem?_toArray, List.getElem?_cons_succ, List.getElem?_cons_zero]; rfl) (by kernel_rfl) (by kernel_rfl) (by kernel_rfl) (fun _ _ _ h => h) (Or.inl ⟨by rfl, ?_⟩) (by assumption) ?_
        rotate_left
        · intro w hSw; (try dsimp only at hSw); go_simp; (try with_reducible rfl)
        try simp only [Act.put, List.setIfInBounds_toArray, List.set_cons_zero, List.set_cons_succ]
        refine wpAnyH_take (i := 17) (oi := _) (v := ?_) (by simp only [List.getElem?_toArray, List.getElem?_cons_succ, List.getElem?_cons_zero]; rfl) (by kernel_rfl) (by kernel_rfl) (by kernel_rfl) (fun _ _ _ h => h) (Or.inl ⟨by rfl, ?_⟩) (by assumption) ?_
        rotate_left
        · intro w hSw; (try dsimp only at hSw); go_simp; (try with_reducible rfl)
        try simp only [Act.put, List.setIfInBounds_toArray, List.set_cons_zero, List.set_cons_succ]
        refine wpAnyH_take (i := 18) (oi := _) (v := ?_) (by simp only [List.getElem?_toArray, List.getElem?_cons_succ, List.getElem?_cons_zero]; rfl) (by kernel_rfl) (by kernel_rfl) (by kernel_rfl) (fun _ _ _ h => h) (Or.inl ⟨by rfl, ?_⟩) (by assumption) ?_
        rotate_left
        · intro w hSw; (try dsimp only at hSw); go_simp; (try with_reducible rfl)
        try simp only [Act.put, List.setIfInBounds_toArray, List.set_cons_zero, List.set_cons_succ]
        refine wpAnyH_take (i := 19) (oi := _) (v := ?_) (by simp only [List.getElem?_toArray, List.getElem?_cons_succ, List.getElem?_cons_zero]; rfl) (by kernel_rfl) (by kernel_rfl) (by kernel_rfl) (fun _ _ _ h => h) (Or.inl ⟨by rfl, ?_⟩) (by assumption) ?_
        rotate_left
        · intro w hSw; (try dsimp only at hSw); go_simp; (try with_reducible rfl)
        try simp only [Act.put, List.setIfInBounds_toArray, List.set_cons_zero, List.set_cons_succ]
        refine wpAnyH_ready (rs := [20]) (by kernel_rfl) (by simp) ?_
        refine AllReadyH.cons (o := _) (by simp only [List.getElem?_toArray, List.getElem?_cons_succ, List.getElem?_cons_zero]; rfl) (fun K hK => ?_) AllReadyH.nil
        go_simp
        (go_at_call 57; refine (Hsm.out _ (hrI.out _ (getB.out _ (by with_reducible assumption)))).mono ?_; rintro e w4 ⟨vs, rfl, hown4, hb4⟩; have hB4 := Lib.hid (keepBel (W := w1) (getB.out _ (by with_reducible assumption)) hb4); have hcv4 := Hcvs.out _ _ (rdB_ofOwn hown4))
        refine hK.out _ _ (by (try dsimp only); first | with_reducible exact HS.out | with_reducible assumption | with_reducible exact BgS.go Hsq (by assumption) (by assumption)) (fun hHeld => ?_)
        clear hK K
        try simp only [Act.put, List.setIfInBounds_toArray, List.set_cons_zero, List.set_cons_succ]
        refine wpAnyH_ready (rs := [21]) (by kernel_rfl) (by simp) ?_
        refine AllReadyH.cons (o := _) (by simp only [List.getElem?_toArray, List.getElem?_cons_succ, List.getElem?_cons_zero]; rfl) (fun K hK => ?_) AllReadyH.nil
        go_simp
        refine hK.out _ _ (by (try dsimp only); first | with_reducible exact HS.out | with_reducible assumption | with_reducible exact BgS.go Hsq (by assumption) (by assumption)) (fun hHeld => ?_)
        clear hK K
        try simp only [Act.put, List.setIfInBounds_toArray, List.set_cons_zero, List.set_cons_succ]
        refine wpAnyH_take (i := 22) (oi := _) (v := ?_) (by simp only [List.getElem?_toArray, List.getElem?_cons_succ, List.getElem?_cons_zero]; rfl) (by kernel_rfl) (by kernel_rfl) (by kernel_rfl) (fun _ _ _ h => h) (Or.inl ⟨by rfl, ?_⟩) (by assumption) ?_
        rotate_left
        · intro w hSw; (try dsimp only at hSw); go_simp; (try with_reducible rfl)
        try simp only [Act.put, List.setIfInBounds_toArray, List.set_cons_zero, List.set_cons_succ]
        refine wpAnyH_take (i := 23) (oi := _) (v := ?_) (by simp only [List.getElem?_toArray, List.getElem?_cons_succ, List.getElem?_cons_zero]; rfl) (by kernel_rfl) (by kernel_rfl) (by kernel_rfl) (fun _ _ _ h => h) (Or.inl ⟨by rfl, ?_⟩) (by assumption) ?_
        rotate_left
        · intro w hSw; (try dsimp only at hSw); go_simp; (try with_reducible rfl)
        try simp only [Act.put, List.setIfInBounds_toArray, List.set_cons_zero, List.set_cons_succ]
        refine wpAnyH_done (by kernel_rfl) ?_ _
        refine NoPanic.normal ?_
      · have hrn := Hr0.out
        rw [if_neg (of_decide_eq_false Heq.out)] at hrn
        subst hrn
        have hbw4 := hbw1.trans (hB4.out.mono hbw1.size)
        have hM4 := (hB4.out.block _ (Array.getElem?_eq_some_iff.1 HM1.out).1).trans HM1.out
        obtain ⟨⟨y0, y1, y2, y3, y4, y5⟩, z0, z1, z2, z3, z4, z5⟩ := cells6 hM4
        have HM4 := Lib.hid hM4
        clear hM4 hown4 hb4 hcv4
        go_wp2
        have hB5 := heap6 ⟨_, _, _, _, _, _, HM4.out⟩ (.int .i64 0) (.int .i64 0) (.int .i64 0) (.string ⟨#[]⟩) (.slice none 0 0) (.slice none 0 0)
        refine bodyPost_ret (results_row_tmp2 rfl _ _ w.heap.size 25 _ (0, 0) _ rfl hB5 Tryz.underlying25 rfl (by kernel_rfl)) rfl (decRes_none rfl ?_)
        exact (((((hbw4.setCell (by exact Nat.le_refl _) _).setCell (by exact Nat.le_refl _) _).setCell (by exact Nat.le_refl _) _).setCell (by exact Nat.le_refl _) _).setCell (by exact Nat.le_refl _) _).setCell (by exact Nat.le_refl _) _
      · have hr1 := Hr0.out
        rw [if_pos (of_decide_eq_true Heq.out)] at hr1
        have hbw4 := hbw1.trans (hB4.out.mono hbw1.size)
        have hM4 := (hB4.out.block _ (Array.getElem?_eq_some_iff.1 HM1.out).1).trans HM1.out
        have hI4 := hrI.out _ hB4.out
        have hIlt : ∀ k, (Value.slice ai I.length ci).ownBlock = some k → k < w4.heap.size := fun k hk => by have := (HoI.out.lt k hk).2; have := hB4.out.size; omega
        have hy0 := eye_new hI4 (nilOk_own HoI.out) hIlt
        have hM5 := (Below.heap_alloc w4 (.cells #[.slice ai I.length ci, .bool false] 89) _ (Array.getElem?_eq_some_iff.1 hM4).1).trans hM4
        have hbw5 := hbw4.alloc hbw4.size (.cells #[.slice ai I.length ci, .bool false] 89)
        have hYM : w4.heap.size ≠ w.heap.size := by have := (Array.getElem?_eq_some_iff.1 hM4).1; omega
        have hY0 : w.heap.size < w4.heap.size := (Array.getElem?_eq_some_iff.1 hM4).1
        have hL := left_le hle
        obtain ⟨F, hF⟩ : ∃ F, bytesO (stR I 3) = F := ⟨_, rfl⟩
        obtain ⟨N, hN⟩ : ∃ N, numO F.2 = N := ⟨_, rfl⟩
        have hrm := readM_is I F N hF hN
        have hFl := bytesO_left (hL 3)
        have h0 : numO (some I) = (nR I 0, stR I 1) := rfl
        have h1 : numO (stR I 1) = (nR I 1, stR I 2) := rfl
        have h2 : numO (stR I 2) = (nR I 2, stR I 3) := rfl
        have hL3 := hL 3
        have hd0 := eNumS hy0
        rw [h0] at hd0
        have hd1 := fun W ob (h : EySt W w4.heap.size ob (stR I 1)) => eNumS h
        rw [h1] at hd1
        have hd2 := fun W ob (h : EySt W w4.heap.size ob (stR I 2)) => eNumS h
        rw [h2] at hd2
        have hd3 := fun W ob (h : EySt W w4.heap.size ob (stR I 3)) => eBytesS h (fun q e => by have := hL3 q e; omega)
        rw [hF] at hd3 hFl
        have hNl := numO_left hFl.2
        have hNle := numO_le F.2
        have hd4 := fun W ob (h : EySt W w4.heap.size ob F.2) => eNumS h
        rw [hN] at hNl hNle hd4
        have hML := fun j => manyO_left j hNl
        rw [hrm] at hr1
        generalize nR I 0 = n0 at *
        generalize nR I 1 = n1 at *
        generalize nR I 2 = n2 at *
        generalize stR I 1 = s1' at *
        generalize stR I 2 = s2' at *
        generalize stR I 3 = s3' at *
        generalize (Value.slice ai I.length ci).ownBlock = oy at hy0 hd0 hIlt
        obtain ⟨F1, F2⟩ := F
        obtain ⟨n, N2⟩ := N
        simp only at hFl hNl hN hML hNle hr1 hd4
        have Hd0 := Lib.hid hd0
        have Hd1 := Lib.hid hd1
        have Hd2 := Lib.hid hd2
        have Hd3 := Lib.hid hd3
        have Hd4 := Lib.hid hd4
        have Hr1 := Lib.hid hr1
        have HML := Lib.hid hML
        have HM5 := Lib.hid hM5
        have HIlt := Lib.hid hIlt
        clear hd0 hd1 hd2 hd3 hd4 hr1 hML hM5 hM4 hI4 hy0 hrm hF hN h0 h1 h2 hL hL3 hNl hIlt hown4 hb4 hcv4 x0 x1 hrx hsl
        go_wp2_with fail
        refine (Hd0.out).mono ?_; rintro e w5 ⟨rfl, hy1, hK5⟩
        go_wp2_with fail
        refine (Hd1.out _ _ hy1).mono ?_; rintro e w6 ⟨rfl, hy2, hK6⟩
        go_wp2_with fail
        refine (Hd2.out _ _ hy2).mono ?_; rintro e w7 ⟨rfl, hy3, hK7⟩
        go_wp2_with fail
        refine (Hd3.out _ _ hy3).mono ?_; rintro e w8 ⟨vf, rfl, hoF, hy4, hK8⟩
        simp only at hoF hy4 ⊢
        have hcvF := run_strL (rdB_ofOwn hoF)
        have hK58 := ((hK5.trans hK6).trans hK7).trans hK8
        have hM8 := hK58.heap HM5.out (by omega)
        have hbw8 := hbw5.trans (hK58.below (B := w.heap.size) (fun i hi => by omega) hbw5.size)
        have hs8 := hK58.size
        simp only [World.size_alloc] at hs8
        obtain ⟨af, cf, hvf⟩ := own_form0 hoF
        subst hvf
        generalize hsf : strL F1 = sf at *
        have hM9 := (Below.heap_alloc w8 (.cells #[.int .i64 n0, .int .i64 n1, .int .i64 n2, .string sf, .slice none 0 0, .slice none 0 0] 25) _ (Array.getElem?_eq_some_iff.1 hM8).1).trans hM8
        have hm9 : (w8.alloc (.cells #[.int .i64 n0, .int .i64 n1, .int .i64 n2, .string sf, .slice none 0 0, .slice none 0 0] 25)).heap[w8.heap.size]? = some (.cells #[.int .i64 n0, .int .i64 n1, .int .i64 n2, .string sf, .slice none 0 0, .slice none 0 0] 25 (0, 0)) := heap_alloc_new w8 _
        have hy5 := hy4.below ((Below.refl _ _).alloc (Nat.le_refl _) (.cells #[.int .i64 n0, .int .i64 n1, .int .i64 n2, .string sf, .slice none 0 0, .slice none 0 0] 25))
        have hbw9 := hbw8.alloc hbw8.size (.cells #[.int .i64 n0, .int .i64 n1, .int .i64 n2, .string sf, .slice none 0 0, .slice none 0 0] 25)
        have Hd5 := Lib.hid (Hd4.out _ _ hy5)
        have HM9 := Lib.hid hM9
        have Hm9 := Lib.hid hm9
        clear hM9 hm9 hM8 hoF hy1 hy2 hy3 hy4 hy5 Hd0 Hd1 Hd2 Hd3 Hd4
        go_wp2_with fail
        refine (Hd5.out).mono ?_; rintro e w9 ⟨rfl, hy6, hK9⟩
        simp only at hy6 ⊢
        have hM10 := hK9.heap HM9.out (by omega)
        have hm10 := hK9.heap Hm9.out (by omega)
        have hbw10 := hbw9.trans (hK9.below (B := w.heap.size) (fun i hi => by omega) hbw9.size)
        have hs9 := hK9.size
        simp only [World.size_alloc] at hs9
        obtain ⟨M, hMd⟩ : ∃ M, w.heap.size = M := ⟨_, rfl⟩
        obtain ⟨Y, hYd⟩ : ∃ Y, w4.heap.size = Y := ⟨_, rfl⟩
        obtain ⟨m8, hm8d⟩ : ∃ m8, w8.heap.size = m8 := ⟨_, rfl⟩
        obtain ⟨B, hBd⟩ : ∃ B, w9.heap.size = B := ⟨_, rfl⟩
        have hoyB : ∀ k, oy = some k → k < Y := by rw [← hYd]; exact HIlt.out
        rw [hYd, hm8d] at hs8
        rw [hm8d, hBd] at hs9
        have hm0 : ∃ vr, w9.heap[m8]? = some (.cells #[.int .i64 n0, .int .i64 n1, .int .i64 n2, .string sf, vr, .slice none 0 0] 25 (0, 0)) ∧ w9.ownsRow B 9 1 vr (manyO 0 N2).1.length ((manyO 0 N2).1.flatMap s1) := ⟨.slice none 0 0, by rw [← hm8d]; exact hm10, World.ownsRow_nil _ _ _ _⟩
        have hBle : B ≤ w9.heap.size := by omega
        have Hm0 := Lib.hid hm0
        have Hy6 := Lib.hid hy6
        have HM10 := Lib.hid hM10
        have Hbw10 := Lib.hid hbw10
        have HoyB := Lib.hid hoyB
        have hYM : M < Y := by omega
        clear hm0 hy6 hM10 hm10 hbw10 hoyB HIlt Hd5 hK9 HM9 Hm9 hBd
        rw [hMd] at HM10
        rw [hYd] at Hy6
        simp only [hMd, hYd, hm8d]
        have HMd := Lib.hid hMd
        have HYd := Lib.hid hYd
        have Hm8d := Lib.hid hm8d
        clear hMd hYd hm8d
        go_wp2
        have hMs : M + 1 ≤ Y := by omega
        have hYs : Y < m8 := by omega
        have hms : m8 < B := by omega
        clear hs8 hs9 hY0
        go_loopw [10] (fun i wr => ∃ j : Nat, j ≤ n ∧ j ≤ 9 ∧ i = .int .i64 j ∧ EySt wr Y oy (manyO j N2).2 ∧ (∃ vr, wr.heap[m8]? = some (.cells #[.int .i64 n0, .int .i64 n1, .int .i64 n2, .string sf, vr, .slice none 0 0] 25 (0, 0)) ∧ wr.ownsRow B 9 1 vr (manyO j N2).1.length ((manyO j N2).1.flatMap s1)) ∧ wr.heap[M]? = some (.cells #[.int .i64 0, .int .i64 0, .int .i64 0, .string ⟨#[]⟩, .slice none 0 0, .slice none 0 0] 25 (0, 0)) ∧ Below w.heap.size w wr ∧ B ≤ wr.heap.size) (fun i _ => 9 - (intOf i).toNat)
        case atStart => exact ⟨0, by omega, by omega, rfl, Hy6.out, Hm0.out, HM10.out, Hbw10.out, hBle⟩
        case round =>
          obtain ⟨j, hj, hj9, rfl, hy, ⟨vr, hm, hown⟩, hM, hbw, hBw⟩ := hrel
          by_cases hlt : j < n ∧ j < 9
          · obtain ⟨hlt1, hlt2⟩ := hlt
            have hlti : (j : Int) < (n : Int) := by omega
            have hlti2 : (j : Int) < 9 := by omega
            obtain ⟨hl1, hl2, hl3⟩ := HML.out j
            have hcall := eBytesS (hy.below ((Below.refl _ _).drew)) (fun q e => by have := hl3 q e; omega)
            have hmj := manyO_snoc j N2
            have hbl := (bytesO_left hl3).1
            generalize manyO j N2 = P at hcall hown hl1 hmj hbl
            obtain ⟨P1, P2⟩ := P
            simp only at hcall hown hl1 hmj hbl
            generalize bytesO P2 = Q at hcall hmj hbl
            obtain ⟨Q1, Q2⟩ := Q
            simp only at hmj hbl
            have hP9 : P1.length ≤ 9 := by omega
            have hownB := own_base hown
            obtain ⟨av, cv, hvr⟩ := own_form0 hown
            subst hvr
            have hvy : (Value.slice av P1.length cv).ownBlock ≠ some Y := fun e => by have := hownB _ e; omega
            obtain ⟨⟨-, -, -, -, c4, -⟩, -, -, -, -, f4, -⟩ := cells6 hm
            have hrest : Hid (∀ w6 : World, Keeps (fun k => k = Y) wr.drew w6 → w6.heap[m8]? = some (.cells #[.int .i64 n0, .int .i64 n1, .int .i64 n2, .string sf, .slice av P1.length cv, .slice none 0 0] 25 (0, 0)) ∧ w6.ownsRow B 9 1 (.slice av P1.length cv) P1.length (P1.flatMap s1) ∧ w6.heap[M]? = some (.cells #[.int .i64 0, .int .i64 0, .int .i64 0, .string ⟨#[]⟩, .slice none 0 0, .slice none 0 0] 25 (0, 0)) ∧ Below w.heap.size w w6 ∧ B ≤ w6.heap.size) := fun w6 hK =>
              ⟨hK.heap hm (by omega), own_keeps (World.ownsRow.drew hown) hK (fun k hk e => hvy (by rw [hk, e])), hK.heap hM (by omega), (hbw.drew).trans (hK.below (B := w.heap.size) (fun k hk => by have := HMd.out; omega) hbw.size), Nat.le_trans hBw hK.size⟩
            have Hmj := Lib.hid hmj
            have Hcall := Lib.hid hcall
            clear hcall hm hmj hl1 hl2 hl3 hown hM hy hvy
            have hbd1 : P1.length + 1 ≤ maxLen := by show P1.length + 1 ≤ 9223372036854775807; omega
            have hbd2 : (P1.length + 1) * 16 ≤ 140737488355328 := by omega
            have hs1d : s1 Q1 = [.string (strL Q1)] := rfl
            have hcs1 : ∀ u ∈ [Value.string (strL Q1)], u.oneCell' = true := by intro u hu; exact s1_one [Q1] u (by simpa [s1] using hu)
            have hcvs := fun W v' (h : RdB W v' Q1) => run_strL h
            generalize hsq2 : strL Q1 = sq2 at *
            have Hsq2 := Lib.hid hsq2
            have Hcs1 := Lib.hid hcs1
            have Hcvs2 := Lib.hid hcvs
            clear hsq2 hcs1 hcvs hs1d
            go_wp2
            go_region_law (first
              | (refine step_append_lies (w6.alloc (.cells #[.string sq2] 9)) rfl (.tmp 66) (.tmp 70) 22 rfl B 9 i0 _ 1 16 Tryz.underlying22 hi hz0 hz1 hz2 rfl (by decide) (.slice av P1.length cv) P1.length (P1.flatMap s1) (by rfl) hownA ⟨w6.heap.size, 0, none⟩ 1 1 [.string sq2] (by rfl) rfl Hncell.out Hcs1.out (by decide) hbd1 hbd2 hbd3 (w6.heap.size + 1) Hsz7.out ?_; rintro g cap7 w7 hown7 hg7 hat7 hlt7; have hM8 := (Keeps.grown hg7).heap (k := m8) ((Below.heap_alloc w6 _ m8 (Array.getElem?_eq_some_iff.1 q1).1).trans q1) (fun e => by have := hownB _ e; omega); have g47 := (cells6 hM8).2.2.2.2.2.1; have a47 := (cells6 hM8).1.2.2.2.2.1)
              | (go_simp; go_at_call 59; refine (Hcall.out).mono ?_; rintro e w6 ⟨vs6, rfl, hos6, hy6, hK6⟩; have hcv6 := Hcvs2.out _ _ (rdB_ofOwn hos6); obtain ⟨q1, q2, q3, q4, q5⟩ := hrest.out w6 hK6; have c46 := (cells6 q1).1.2.2.2.2.1; have c47 : (w6.alloc (.cells #[.string sq2] 9)).cell? ⟨m8, 4, none⟩ = some (.slice av P1.length cv) := (((Below.refl w6.heap.size w6).alloc (Nat.le_refl _) _).cell (p := ⟨m8, 4, none⟩) (Array.getElem?_eq_some_iff.1 q1).1).trans c46; have Hncell := Lib.hid (news_new w6 [.string sq2] 9 (0, 0)); have hbd3 : B ≤ (w6.alloc (.cells #[.string sq2] 9)).heap.size := (by simp; omega); have hownA : (w6.alloc (.cells #[.string sq2] 9)).ownsRow B 9 1 (.slice av P1.length cv) P1.length (P1.flatMap s1) := World.ownsRow.alloc q2 _; have Hsz7 : Hid ((w6.alloc (.cells #[.string sq2] 9)).heap.size = w6.heap.size + 1) := (by show _ = _; simp)))
            all_goals
              have hy6' : EySt w6 Y oy Q2 := hy6
              have hy7 := (hy6'.below ((Below.refl w6.heap.size w6).alloc (Nat.le_refl _) (.cells #[.string sq2] 9))).keeps (Keeps.grown hg7) (fun e => by have := hownB _ e; omega) (fun k hk e => by have := hownB _ e; have := HoyB.out k hk; omega)
              have hKs := Keeps.setCell (F := fun k => k = m8) w7 ⟨m8, 4, none⟩ (.slice (some ⟨g, 0, none⟩) (P1.length + 1) cap7) rfl
              have hgB : B ≤ g := by
                rcases hat7 with h | h
                · exact hownB _ h
                · omega
              have hM7 := hKs.heap ((Keeps.grown hg7).heap (k := M) ((Below.heap_alloc w6 _ M (Array.getElem?_eq_some_iff.1 q3).1).trans q3) (fun e => by have := hownB _ e; omega)) (show ¬ M = m8 by omega)
              have hbw7 : Below w.heap.size w w7 := (q4.alloc q4.size _).grown hg7 (by have := q4.size; simp; omega) (fun k hk => by have := hownB k hk; have := HMd.out; omega)
              have hB7 : B ≤ w7.heap.size := by have := hg7.size; simp at this; omega
              have hmm := heap_setCell_same _ _ 4 _ _ (.slice (some ⟨g, 0, none⟩) (P1.length + 1) cap7) hM8
              have hoo := own_keeps hown7 hKs (fun k hk e => by have : g = k := Option.some.inj hk; omega)
              have hyy := hy7.keeps hKs (show ¬ Y = m8 by omega) (fun k hk e => by have := HoyB.out k hk; omega)
              have hbb := hbw7.setCell (p := ⟨m8, 4, none⟩) (show w.heap.size ≤ m8 by have := HMd.out; omega) (.slice (some ⟨g, 0, none⟩) (P1.length + 1) cap7)
              have Hfin := Lib.hid (And.intro hmm (And.intro hoo (And.intro hyy (And.intro hbb hM7))))
              clear hy6 hy6' hy7 hKs hM7 hmm hoo hyy hbb hown7 hg7 hM8 q1 q2 q3 q4 q5 hownA
              go_wp2
              go_roundw
              case rel =>
                obtain ⟨hmm, hoo, hyy, hbb, hM7⟩ := Hfin.out
                refine ⟨j + 1, by omega, by omega, by go_num, ?_, ⟨.slice (some ⟨g, 0, none⟩) (P1.length + 1) cap7, hmm, ?_⟩, hM7, hbb, by simp; omega⟩
                · rw [Hmj.out]; exact hyy
                · rw [Hmj.out, List.length_append, List.flatMap_append, List.flatMap_singleton, s1, Hsq2.out]
                  exact hoo
              case measure => simp [intOf] <;> omega
          · have hji : ¬ ((j : Int) < (n : Int) ∧ (j : Int) < 9) := by omega
            obtain ⟨hl1, hl2, hl3⟩ := HML.out j
            have hcall := eBytesS hy (fun q e => by have := hl3 q e; omega)
            have hbl := (bytesO_left hl3).1
            have hr3 : (n ≤ 8 ∧ (if (bytesO (manyO j N2).2).2 = some [] ∧ (MailD.mk (n0 : Int) (n1 : Int) (n2 : Int) F1 (manyO j N2).1 (bytesO (manyO j N2).2).1).good = true then some (MailD.mk (n0 : Int) (n1 : Int) (n2 : Int) F1 (manyO j N2).1 (bytesO (manyO j N2).2).1, I.length + 12) else none) = r) ∨ (8 < n ∧ r = none) := by
              have h := Hr1.out
              by_cases h8 : n ≤ 8
              · have hje : j = n := by omega
                subst hje
                refine .inl ⟨h8, ?_⟩
                rw [← h]
                by_cases hq : (bytesO (manyO j N2).2).2 = some [] ∧ (MailD.mk (n0 : Int) (n1 : Int) (n2 : Int) F1 (manyO j N2).1 (bytesO (manyO j N2).2).1).good = true
                · rw [if_pos hq, if_pos ⟨h8, hq⟩]; rfl
                · rw [if_neg hq, if_neg (fun e => hq e.2)]; rfl
              · rw [if_neg (fun e => h8 e.1)] at h
                exact .inr ⟨by omega, h.symm⟩
            generalize manyO j N2 = P at hcall hown hl1 hl2 hbl hr3
            obtain ⟨P1, P2⟩ := P
            simp only at hcall hown hl1 hl2 hbl hr3
            generalize bytesO P2 = Q at hcall hbl hr3
            obtain ⟨Q1, Q2⟩ := Q
            simp only at hbl hr3
            have hownB := own_base hown
            have hownL := fun k hk => (hown.lt k hk).2
            obtain ⟨av, cv, hvr⟩ := own_form0 hown
            subst hvr
            have Hcall := Lib.hid hcall
            have Hr3 := Lib.hid hr3
            have Hm := Lib.hid hm
            have HM := Lib.hid hM
            have Hown := Lib.hid hown
            have Hl2 := Lib.hid hl2
            have HownB := Lib.hid hownB
            have HownL := Lib.hid hownL
            have hexit : decide ((j : Int) < (n : Int)) = false ∨ (decide ((j : Int) < (n : Int)) = true ∧ decide ((j : Int) < 9) = false) := by
              by_cases h : (j : Int) < (n : Int)
              · exact .inr ⟨decide_eq_true h, decide_eq_false (fun h2 => hji ⟨h, h2⟩)⟩
              · exact .inl (decide_eq_false h)
            clear hcall hr3 hm hM hown hl1 hl2 hl3 hownB hownL hy hji hlt
            have hjn : (n : Int) ≤ (j : Int) ∨ ((j : Int) < (n : Int) ∧ (9 : Int) ≤ (j : Int)) := by
              rcases hexit with h | ⟨h, h'⟩
              · exact .inl (by have := of_decide_eq_false h; omega)
              · exact .inr ⟨of_decide_eq_true h, by have := of_decide_eq_false h'; omega⟩
            clear hexit
            have hfin : Hid (∀ w6 vb, w6.ownsRow wr.heap.size 5 1 vb Q1.length (Q1.map u8v) → EySt w6 Y oy Q2 → Keeps (fun k => k = Y) wr w6 → ∃ (ab : Option Addr) (cb : Nat) (ay : Option Addr) (L cy : Nat) (bady : Bool), vb = .slice ab Q1.length cb ∧ (w6.cell? ⟨m8, 5, none⟩).isSome = true ∧ w6.frozen? ⟨m8, 5, none⟩ = false ∧
                (w6.setCell ⟨m8, 5, none⟩ vb).heap[m8]? = some (.cells #[.int .i64 n0, .int .i64 n1, .int .i64 n2, .string sf, .slice av P1.length cv, vb] 25 (0, 0)) ∧
                (w6.setCell ⟨m8, 5, none⟩ vb).heap[M]? = some (.cells #[.int .i64 0, .int .i64 0, .int .i64 0, .string ⟨#[]⟩, .slice none 0 0, .slice none 0 0] 25 (0, 0)) ∧
                (w6.setCell ⟨m8, 5, none⟩ vb).cell? ⟨Y, 0, none⟩ = some (.slice ay L cy) ∧ (w6.setCell ⟨m8, 5, none⟩ vb).cell? ⟨Y, 1, none⟩ = some (.bool bady) ∧ (bady = true → Q2 = none) ∧ (bady = false → (Q2 = some [] ↔ L = 0)) ∧ L ≤ 9223372036854775807 ∧
                (w6.setCell ⟨m8, 5, none⟩ vb).ownsRow B 9 1 (.slice av P1.length cv) P1.length (P1.flatMap s1) ∧ (w6.setCell ⟨m8, 5, none⟩ vb).ownsRow B 5 1 vb Q1.length (Q1.map u8v) ∧ Below w.heap.size w (w6.setCell ⟨m8, 5, none⟩ vb)) := by
              intro w6 vb hob hy6 hK6
              have hm6 := hK6.heap Hm.out (by omega)
              have hM6 := hK6.heap HM.out (by omega)
              have hown6 := own_keeps Hown.out hK6 (fun k hk e => by have := HownB.out k hk; omega)
              have hbw6 := hbw.trans (hK6.below (B := w.heap.size) (fun k hk => by have := HMd.out; omega) hbw.size)
              obtain ⟨ab, cb, hvb⟩ := own_form0 hob
              have hKs := Keeps.setCell (F := fun k => k = m8) w6 ⟨m8, 5, none⟩ vb rfl
              have hy7 := hy6.keeps hKs (show ¬ Y = m8 by omega) (fun k hk e => by have := HoyB.out k hk; omega)
              obtain ⟨vy, ys, bady, hEy, _, hoy7, _, _⟩ := hy7
              obtain ⟨y0, y1, _, _⟩ := hEy.cells
              obtain ⟨ay, cy, hvy, hy1, hy2⟩ := hEy.rd.form
              have c5 := (cells6 hm6).1.2.2.2.2.2
              have f5 := (cells6 hm6).2.2.2.2.2.2
              refine ⟨ab, cb, ay, ys.length, cy, bady, hvb, by rw [c5]; rfl, f5, heap_setCell_same _ _ 5 _ _ _ hm6, hKs.heap hM6 (by omega), by rw [y0, hvy], y1, fun e => by rw [hoy7, e]; rfl, fun e => ?_, by omega, own_keeps hown6 hKs (fun k hk e => by have := HownB.out k hk; omega), own_mono (own_keeps hob hKs (fun k hk e => by have := own_base hob k hk; omega)) hBw, hbw6.setCell (by show w.heap.size ≤ m8; have := HMd.out; omega) _⟩
              rw [hoy7, e, leftO, if_neg (by decide)]
              constructor
              · intro h; rw [Option.some.inj h]; rfl
              · intro h; rw [List.length_eq_zero_iff.1 h]
            clear Hm HM Hown HownB HownL Hm0 Hy6 HM10 Hbw10 HoyB HM0 Hbx HM1 HoI
            rcases hjn with hjn | ⟨hjn, hj9'⟩
            · go_wp2_with fail
              refine (Hcall.out).mono ?_; rintro e w6 ⟨vb, rfl, hob, hy6, hK6⟩
              obtain ⟨ab, cb, ay, L, cy, bady, rfl, c5, f5, hm7, hM7, y0, y1, hq1, hq2, hLm, hoL, hoT, hbw7⟩ := hfin.out w6 vb hob hy6 hK6
              obtain ⟨v5, c5⟩ := Option.isSome_iff_exists.1 c5
              obtain ⟨x0, x1, x2, x3, x4, x5⟩ := (cells6 hm7).1
              obtain ⟨⟨p0, p1, p2, p3, p4, p5⟩, u0, u1, u2, u3, u4, u5⟩ := cells6 hM7
              have Hm7 := Lib.hid hm7
              have HM7 := Lib.hid hM7
              have HoL := Lib.hid hoL
              have HoT := Lib.hid hoT
              have Hq1 := Lib.hid hq1
              have Hq2 := Lib.hid hq2
              clear hm7 hM7 hoL hoT hob hy6 hK6 hq1 hq2
              have hfz : Hid (∀ w' , Below w.heap.size w w' → Below w.heap.size w ((((((w'.setCell ⟨M, 0, none⟩ (.int .i64 0)).setCell ⟨M, 1, none⟩ (.int .i64 0)).setCell ⟨M, 2, none⟩ (.int .i64 0)).setCell ⟨M, 3, none⟩ (.string ⟨#[]⟩)).setCell ⟨M, 4, none⟩ (.slice none 0 0)).setCell ⟨M, 5, none⟩ (.slice none 0 0))) := fun w' h =>
                have hle : w.heap.size ≤ M := by have := HMd.out; omega
                (((((h.setCell hle _).setCell hle _).setCell hle _).setCell hle _).setCell hle _).setCell hle _
              have hrn : Hid (bady = true ∨ 0 < L ∨ 8 < n → r = none) := by
                intro h
                rcases Hr3.out with ⟨h8, hr⟩ | ⟨_, hr⟩
                · rw [← hr, if_neg]
                  rintro ⟨hq, _⟩
                  rcases h with h | h | h
                  · rw [Hq1.out h] at hq; cases hq
                  · cases bady
                    · have := (Hq2.out rfl).1 hq; omega
                    · rw [Hq1.out rfl] at hq; cases hq
                  · omega
                · exact hr
              cases bady
              · by_cases hL : 0 < L
                · have hLi : (0 : Int) < (L : Int) := by omega
                  have hr := hrn.out (.inr (.inl hL))
                  subst hr
                  go_wp2
                  have hB5 := heap6 ⟨_, _, _, _, _, _, HM7.out⟩ (.int .i64 0) (.int .i64 0) (.int .i64 0) (.string ⟨#[]⟩) (.slice none 0 0) (.slice none 0 0)
                  exact bodyPost_ret (results_row_tmp2 rfl _ _ M 25 _ (0, 0) _ rfl hB5 Tryz.underlying25 rfl (by kernel_rfl)) rfl (decRes_none rfl (hfz.out _ hbw7))
                · have hL0 : L = 0 := by omega
                  subst hL0
                  by_cases h8 : n ≤ 8
                  · have h8i : ¬ ((8 : Int) < (n : Int)) := by omega
                    have hQ := (Hq2.out rfl).2 rfl
                    have hr4 : (if (MailD.mk (n0 : Int) (n1 : Int) (n2 : Int) F1 P1 Q1).good = true then some (MailD.mk (n0 : Int) (n1 : Int) (n2 : Int) F1 P1 Q1, I.length + 12) else none) = r := by
                      rcases Hr3.out with ⟨_, hr⟩ | ⟨h, _⟩
                      · rw [← hr]
                        by_cases hg : (MailD.mk (n0 : Int) (n1 : Int) (n2 : Int) F1 P1 Q1).good = true
                        · rw [if_pos hg, if_pos ⟨hQ, hg⟩]
                        · rw [if_neg hg, if_neg (fun e => hg e.2)]
                      · omega
                    obtain ⟨md, hmd⟩ : ∃ md, md = MailD.mk (n0 : Int) (n1 : Int) (n2 : Int) F1 P1 Q1 := ⟨_, rfl⟩
                    obtain ⟨W7, hW7⟩ : ∃ W7, w6.setCell ⟨m8, 5, none⟩ (.slice ab Q1.length cb) = W7 := ⟨_, rfl⟩
                    have hoL := HoL.out
                    have hoT := HoT.out
                    have hm7 := Hm7.out
                    have hM7 := HM7.out
                    rw [hW7] at hoL hoT hm7 hM7 hbw7
                    have hl2 := Hl2.out
                    have hgood := refGood_calls md (.slice av P1.length cv) (.slice ab Q1.length cb) W7 (by rw [hmd]; exact rdL_ofOwn s1_len (by decide) hoL) (by rw [hmd]; exact rdB_ofOwn hoT) (by rw [hmd]; intro l h; have := hl2 l h; omega) (by rw [hmd]; have := hFl.1; simp only; omega)
                    have hmv : mailVal md (.slice av P1.length cv) (.slice ab Q1.length cb) = .agg #[.int .i64 n0, .int .i64 n1, .int .i64 n2, .string sf, .slice av P1.length cv, .slice ab Q1.length cb] := by rw [hmd, ← hsf]
                    rw [hmv] at hgood
                    have hlm : md.rcpts = P1 ∧ md.body = Q1 := by rw [hmd]; exact ⟨rfl, rfl⟩
                    rw [← hmd] at hr4
                    generalize md.good = gd at hgood hr4
                    have Hgood := Lib.hid hgood
                    have Hr4 := Lib.hid hr4
                    have Hmv := Lib.hid hmv
                    have Hlm := Lib.hid hlm
                    have HoL2 := Lib.hid hoL
                    have HoT2 := Lib.hid hoT
                    have Hm8' := Lib.hid hm7
                    have HM8' := Lib.hid hM7
                    have Hbw7 := Lib.hid hbw7
                    clear hgood hr4 hmv hlm hmd hl2 hoL hoT hm7 hM7 HoL HoT Hm7 HM7 hQ hrn hbw7
                    subst hW7
                    go_wp2_with fail
                    refine (Hgood.out).mono ?_; rintro e w8 ⟨rfl, hb8⟩
                    have hM9 := (hb8.block _ (Array.getElem?_eq_some_iff.1 HM8'.out).1).trans HM8'.out
                    have hm9 := (hb8.block _ (Array.getElem?_eq_some_iff.1 Hm8'.out).1).trans Hm8'.out
                    have hbw8 := Hbw7.out.trans (hb8.mono Hbw7.out.size)
                    obtain ⟨⟨p0, p1, p2, p3, p4, p5⟩, u0, u1, u2, u3, u4, u5⟩ := cells6 hM9
                    obtain ⟨k0, k1, k2, k3, k4, k5⟩ := (cells6 hm9).1
                    have HM9 := Lib.hid hM9
                    clear hM9 hm9
                    cases gd
                    · have hr := Hr4.out
                      rw [if_neg (by decide)] at hr
                      subst hr
                      go_wp2
                      have hB5 := heap6 ⟨_, _, _, _, _, _, HM9.out⟩ (.int .i64 0) (.int .i64 0) (.int .i64 0) (.string ⟨#[]⟩) (.slice none 0 0) (.slice none 0 0)
                      exact bodyPost_ret (results_row_tmp2 rfl _ _ M 25 _ (0, 0) _ rfl hB5 Tryz.underlying25 rfl (by kernel_rfl)) rfl (decRes_none rfl (hfz.out _ hbw8))
                    · have hr := Hr4.out
                      rw [if_pos rfl] at hr
                      subst hr
                      have hwI : IntKind.i64.wrap ((I.length : Int) + 12) = (I.length : Int) + 12 := IntWalk.i64_in _ (by omega)
                      go_wp2
                      have hB5 := heap6 ⟨_, _, _, _, _, _, HM9.out⟩ (.int .i64 n0) (.int .i64 n1) (.int .i64 n2) (.string sf) (.slice av P1.length cv) (.slice ab Q1.length cb)
                      have hst : ∀ (W : World) (j : Nat) (v : Value), Keeps (fun k => k = M) W (W.setCell ⟨M, j, none⟩ v) := fun W j v => Keeps.setCell _ _ _ rfl
                      have hKf := ((((((hst w8 0 (.int .i64 n0)).trans (hst _ 1 (.int .i64 n1))).trans (hst _ 2 (.int .i64 n2))).trans (hst _ 3 (.string sf))).trans (hst _ 4 (.slice av P1.length cv))).trans (hst _ 5 (.slice ab Q1.length cb)))
                      have hMw := HMd.out
                      have hoL := own_mono (own_keeps (own_below HoL2.out hb8 (Nat.le_refl _)) hKf (fun k hk e => by have := own_base HoL2.out k hk; omega)) (base' := w.heap.size) (by omega)
                      have hoT := own_mono (own_keeps (own_below HoT2.out hb8 (Nat.le_refl _)) hKf (fun k hk e => by have := own_base HoT2.out k hk; omega)) (base' := w.heap.size) (by omega)
                      refine bodyPost_ret (results_row_tmp2 rfl _ _ M 25 _ (0, 0) _ rfl hB5 Tryz.underlying25 rfl (by kernel_rfl)) rfl ⟨.slice av P1.length cv, .slice ab Q1.length cb, ?_, ?_, ?_, hbw8.trans (hKf.below (fun k hk => by omega) hbw8.size)⟩
                      · show Ending.returned (.tuple #[.agg #[.int .i64 n0, .int .i64 n1, .int .i64 n2, .string sf, .slice av P1.length cv, .slice ab Q1.length cb], _, .bool true]) = .returned (.tuple #[mailVal md (.slice av P1.length cv) (.slice ab Q1.length cb), .int .i64 ((I.length + 12 : Nat) : Int), .bool true])
                        rw [Hmv.out, show ((I.length + 12 : Nat) : Int) = (I.length : Int) + 12 by omega]
                        rfl
                      · show World.ownsRow _ _ _ _ _ md.rcpts.length (md.rcpts.flatMap s1)
                        rw [Hlm.out.1]; exact hoL
                      · show World.ownsRow _ _ _ _ _ md.body.length (md.body.map u8v)
                        rw [Hlm.out.2]; exact hoT
                  · have h8i : (8 : Int) < (n : Int) := by omega
                    have hr := hrn.out (.inr (.inr (by omega)))
                    subst hr
                    go_wp2
                    have hB5 := heap6 ⟨_, _, _, _, _, _, HM7.out⟩ (.int .i64 0) (.int .i64 0) (.int .i64 0) (.string ⟨#[]⟩) (.slice none 0 0) (.slice none 0 0)
                    exact bodyPost_ret (results_row_tmp2 rfl _ _ M 25 _ (0, 0) _ rfl hB5 Tryz.underlying25 rfl (by kernel_rfl)) rfl (decRes_none rfl (hfz.out _ hbw7))
              · have hr := hrn.out (.inl rfl)
                subst hr
                go_wp2
                have hB5 := heap6 ⟨_, _, _, _, _, _, HM7.out⟩ (.int .i64 0) (.int .i64 0) (.int .i64 0) (.string ⟨#[]⟩) (.slice none 0 0) (.slice none 0 0)
                exact bodyPost_ret (results_row_tmp2 rfl _ _ M 25 _ (0, 0) _ rfl hB5 Tryz.underlying25 rfl (by kernel_rfl)) rfl (decRes_none rfl (hfz.out _ hbw7))
            · go_wp2_with fail
              refine (Hcall.out).mono ?_; rintro e w6 ⟨vb, rfl, hob, hy6, hK6⟩
              obtain ⟨ab, cb, ay, L, cy, bady, rfl, c5, f5, hm7, hM7, y0, y1, hq1, hq2, hLm, hoL, hoT, hbw7⟩ := hfin.out w6 vb hob hy6 hK6
              obtain ⟨v5, c5⟩ := Option.isSome_iff_exists.1 c5
              obtain ⟨x0, x1, x2, x3, x4, x5⟩ := (cells6 hm7).1
              obtain ⟨⟨p0, p1, p2, p3, p4, p5⟩, u0, u1, u2, u3, u4, u5⟩ := cells6 hM7
              have Hm7 := Lib.hid hm7
              have HM7 := Lib.hid hM7
              have HoL := Lib.hid hoL
              have HoT := Lib.hid hoT
              have Hq1 := Lib.hid hq1
              have Hq2 := Lib.hid hq2
              clear hm7 hM7 hoL hoT hob hy6 hK6 hq1 hq2
              have hfz : Hid (∀ w' , Below w.heap.size w w' → Below w.heap.size w ((((((w'.setCell ⟨M, 0, none⟩ (.int .i64 0)).setCell ⟨M, 1, none⟩ (.int .i64 0)).setCell ⟨M, 2, none⟩ (.int .i64 0)).setCell ⟨M, 3, none⟩ (.string ⟨#[]⟩)).setCell ⟨M, 4, none⟩ (.slice none 0 0)).setCell ⟨M, 5, none⟩ (.slice none 0 0))) := fun w' h =>
                have hle : w.heap.size ≤ M := by have := HMd.out; omega
                (((((h.setCell hle _).setCell hle _).setCell hle _).setCell hle _).setCell hle _).setCell hle _
              have hrn : Hid (bady = true ∨ 0 < L ∨ 8 < n → r = none) := by
                intro h
                rcases Hr3.out with ⟨h8, hr⟩ | ⟨_, hr⟩
                · rw [← hr, if_neg]
                  rintro ⟨hq, _⟩
                  rcases h with h | h | h
                  · rw [Hq1.out h] at hq; cases hq
                  · cases bady
                    · have := (Hq2.out rfl).1 hq; omega
                    · rw [Hq1.out rfl] at hq; cases hq
                  · omega
                · exact hr
              cases bady
              · by_cases hL : 0 < L
                · have hLi : (0 : Int) < (L : Int) := by omega
                  have hr := hrn.out (.inr (.inl hL))
                  subst hr
                  go_wp2
                  have hB5 := heap6 ⟨_, _, _, _, _, _, HM7.out⟩ (.int .i64 0) (.int .i64 0) (.int .i64 0) (.string ⟨#[]⟩) (.slice none 0 0) (.slice none 0 0)
                  exact bodyPost_ret (results_row_tmp2 rfl _ _ M 25 _ (0, 0) _ rfl hB5 Tryz.underlying25 rfl (by kernel_rfl)) rfl (decRes_none rfl (hfz.out _ hbw7))
                · have hL0 : L = 0 := by omega
                  subst hL0
                  have h8i : (8 : Int) < (n : Int) := by omega
                  have hr := hrn.out (.inr (.inr (by omega)))
                  subst hr
                  go_wp2
                  have hB5 := heap6 ⟨_, _, _, _, _, _, HM7.out⟩ (.int .i64 0) (.int .i64 0) (.int .i64 0) (.string ⟨#[]⟩) (.slice none 0 0) (.slice none 0 0)
                  exact bodyPost_ret (results_row_tmp2 rfl _ _ M 25 _ (0, 0) _ rfl hB5 Tryz.underlying25 rfl (by kernel_rfl)) rfl (decRes_none rfl (hfz.out _ hbw7))
              · have hr := hrn.out (.inl rfl)
                subst hr
                go_wp2
                have hB5 := heap6 ⟨_, _, _, _, _, _, HM7.out⟩ (.int .i64 0) (.int .i64 0) (.int .i64 0) (.string ⟨#[]⟩) (.slice none 0 0) (.slice none 0 0)
                exact bodyPost_ret (results_row_tmp2 rfl _ _ M 25 _ (0, 0) _ rfl hB5 Tryz.underlying25 rfl (by kernel_rfl)) rfl (decRes_none rfl (hfz.out _ hbw7))
end Go.Proofs.YtjddicoigbidlaaGreatDoor

set_option linter.unusedSimpArgs false
set_option linter.unusedVariables false
namespace Go.Proofs.YtjddicoigbidlaaGreatDoor
open Go.RowKit
/-- One owned row of bytes appended to another one. -/
theorem app_row {P : Program} (hP : P = Tryz.prog) {w : World} {ops : Array Oper} {rest : List Oper} {o : Oper} {a : Act} {Q : Exit → Act → World → Prop} (hgd : o.guard = none) (s1 x : Operand)
    (ho : o.op = .call { callee := .builtin .append, args := #[s1, x], argTypes := #[23, 23] })
    {base b2 : Nat} {v u : Value} {bs ys : List UInt8} (hown : w.ownsRow base 5 1 v bs.length (bs.map u8v)) (hr : w.ownsRow b2 5 1 u ys.length (ys.map u8v))
    (hs : a.eval s1 = v) (hx : a.eval x = u) (hlen : bs.length + ys.length ≤ 1000000000000) (hbase : base ≤ w.heap.size)
    (h : ∀ v' w', w'.ownsRow base 5 1 v' (bs ++ ys).length ((bs ++ ys).map u8v) → w.grownBy w' v.ownBlock → wpList P ops Q rest (a.put o.dst v') w') : wpList P ops Q (o :: rest) a w := by
  subst hP
  obtain ⟨i0, hi, hz0, hz1, hz2⟩ := info_parts infoU8
  refine wpList_append_any bb1_len (by decide) hgd s1 x 23 ho base 5 i0 (.int .u8 0) 1 Tryz.underlying23 hi hz0 hz1 hz2 rfl v bs.length _ hs hown u ys hx (rdLB (rdB_ofOwn hr)) (nilOk_own hr) (bb1_one ys) (by show _ ≤ 9223372036854775807; omega) (by omega) hbase ?_
  intro v' w' h1 h2 _
  rw [bb1_flat, ← List.map_append, ← List.length_append] at h1
  exact h v' w' h1 h2
/-- Three cells below what a call has made, and nothing older has turned. -/
def CellsM (W : World) (M : Nat) (x y z : Value) (w : World) : Prop := w.cell? ⟨M, 0, none⟩ = some x ∧ w.cell? ⟨M, 1, none⟩ = some y ∧ w.cell? ⟨M, 2, none⟩ = some z ∧ Below W.heap.size W w
theorem keepM {W w1 w2 : World} {M : Nat} {x y z : Value} (h : CellsM W M x y z w1) (hb : Below w1.heap.size w1 w2) : CellsM W M x y z w2 := by
  have hl : M < w1.heap.size := World.block_lt_of_cell? w1 ⟨M, 0, none⟩ h.1
  obtain ⟨h1, h2, h3, h4⟩ := h
  have hc := (below_cell hb).1
  exact ⟨by rw [hc _ _ hl]; exact h1, by rw [hc _ _ hl]; exact h2, by rw [hc _ _ hl]; exact h3, h4.trans (hb.mono h4.size)⟩
theorem keepMg {W w1 w2 : World} {M : Nat} {x y z : Value} {row : Option Nat} (hM : M < W.heap.size) (h : CellsM W M x y z w1) (hg : w1.grownBy w2 row) (hr : ∀ k, row = some k → W.heap.size ≤ k) : CellsM W M x y z w2 := by
  have hne : some M ≠ row := fun e => by have := hr _ e.symm; omega
  exact ⟨hg.cell h.1 hne, hg.cell h.2.1 hne, hg.cell h.2.2.1 hne, h.2.2.2.grown hg h.2.2.2.size (fun k hk => hr k hk)⟩
theorem CellsM.lt {W w : World} {M : Nat} {x y z : Value} (h : CellsM W M x y z w) : W.heap.size ≤ w.heap.size := h.2.2.2.size
set_option maxRecDepth 100000 in
set_option maxHeartbeats 16000000 in
theorem record_calls (m : MailD) (vr vb : Value) (w : World) (hr : RdS w vr m.rcpts) (hb : RdB w vb m.body) (hnb : NilOk vb) (hsm : m.small) (hg : m.good = true) :
    Calls Tryz.prog 19 #[mailVal m vr vb] w (RowDone w m.record) := by
  have hgi := (good_iff m).1 hg
  have hin := inner_small m hsm hgi.2.2.2.1.2 hgi.2.2.2.2.1
  have hrec : m.record = lenB m.inner ++ be4 (PbCrc.sum m.inner) := rfl
  clear hg
  obtain ⟨id, parent, born, frm, rcpts, body⟩ := m
  unfold MailD.small at hsm
  unfold mailVal
  simp only at hgi hr hb hsm ⊢
  obtain ⟨⟨h1a, h1b⟩, ⟨h2a, h2b⟩, ⟨h3a, h3b⟩, ⟨h4a, h4b⟩, h5, -⟩ := hgi
  obtain ⟨n0, rfl⟩ := Int.eq_ofNat_of_zero_le (show 0 ≤ id by omega)
  obtain ⟨n1, rfl⟩ := Int.eq_ofNat_of_zero_le h2a
  obtain ⟨n2, rfl⟩ := Int.eq_ofNat_of_zero_le h3a
  obtain ⟨bs, hbs⟩ : ∃ bs, bs = (MailD.mk (n0 : Int) n1 n2 frm rcpts body).inner := ⟨_, rfl⟩
  rw [← hbs] at hin hrec
  rw [hrec]
  have hbs' : bs = ((((num8 n0 ++ num8 n1 ++ num8 n2) ++ lenB frm) ++ num8 rcpts.length) ++ rcpts.flatMap lenB) ++ lenB body := hbs
  clear hbs hrec
  have hlen := fun (j : Nat) => flat_lenB_le (rcpts.take j) 100000 (fun l h => hsm.2 l (List.mem_of_mem_take h))
  obtain ⟨hs1, hs2⟩ := hsm
  obtain ⟨ar, capr, rfl, hlr, hcr⟩ := hr.form
  obtain ⟨ab, capb, rfl, hlb, hcb⟩ := hb.form
  obtain ⟨W, hW⟩ : ∃ W, w.alloc (.cells #[.int .i64 n0, .int .i64 n1, .int .i64 n2, .string (strL frm), .slice ar rcpts.length capr, .slice ab body.length capb] 25) = W := ⟨_, rfl⟩
  have hbW : Below w.heap.size w W := by rw [← hW]; exact (Below.refl _ _).alloc (Nat.le_refl _) _
  have hblkM : W.heap[w.heap.size]? = some (.cells #[.int .i64 n0, .int .i64 n1, .int .i64 n2, .string (strL frm), .slice ar rcpts.length capr, .slice ab body.length capb] 25 (0, 0)) := by rw [← hW]; exact heap_alloc_new w _
  have hsW : W.heap.size = w.heap.size + 1 := by rw [← hW]; simp
  have hcM : ∀ wr, Below W.heap.size W wr → ∀ (j : Nat) v, (#[Value.int .i64 n0, .int .i64 n1, .int .i64 n2, .string (strL frm), .slice ar rcpts.length capr, .slice ab body.length capb] : Array Value)[j]? = some v → wr.cell? ⟨w.heap.size, j, none⟩ = some v := by
    intro wr hB j v hv; rw [cell_of_row _ _ _ _ _ _ ((hB.block _ (by omega)).trans hblkM)]; exact hv
  have hrW := hr.below (Nat.le_refl _) hbW
  have hbdW := hb.below (Nat.le_refl _) hbW
  have Hbs := Lib.hid hbs'
  have Hr := Lib.hid hrW
  have Hb := Lib.hid hbdW
  have HcM := Lib.hid hcM
  have Hnb := Lib.hid hnb
  have Hlen := Lib.hid hlen
  have Hs2 := Lib.hid hs2
  have hc3 := fun W' h => hcM W' h 3 _ rfl
  clear hbs' hr hb hrW hbdW hblkM hnb hlen hs2 hcM hc3
  have hcW := (HcM.out W (Below.refl _ _))
  have hs0 : Hid (CellsM W w.heap.size (.int .i64 (n0 : Int)) (.int .i64 (n1 : Int)) (.int .i64 (n2 : Int)) W.drew) := ⟨hcW 0 _ rfl, hcW 1 _ rfl, hcW 2 _ rfl, (Below.refl _ _).drew⟩
  have hMW : w.heap.size < W.heap.size := by omega
  clear hcW
  have HW := Lib.hid hW.symm
  have hl := num8_length
  go_enter Tryz.func19, Tryz.ntmps19
  go_wp2
  go_region_held3 (fun w' => w'.cell? ⟨w.heap.size, 0, none⟩ = some (.int .i64 (n0 : Int)) ∧ w'.cell? ⟨w.heap.size, 1, none⟩ = some (.int .i64 (n1 : Int)) ∧ w'.cell? ⟨w.heap.size, 2, none⟩ = some (.int .i64 (n2 : Int)) ∧ Below W.heap.size W w') (first | exact hs0.out | exact keepM (by assumption) (by assumption) | exact keepMg hMW (by assumption) (by assumption) (by intro k hk; cases hk; omega))
    (first
      | (go_at_call 55; refine (refNum8 _ (by omega) _).mono ?_; rintro e w2 ⟨g, cap, rfl, hown, hb, hg⟩; have hBg := Nat.le_trans (CellsM.lt (M := w.heap.size) (x := .int .i64 (n0 : Int)) (y := .int .i64 (n1 : Int)) (z := .int .i64 (n2 : Int)) (W := W) (by assumption)) hg)
      | (refine step_app_own rfl (.tmp 7) (.tmp 10) rfl (by rfl) (by rfl) (by first | assumption | exact own_below (by assumption) (by assumption) (Nat.le_refl _)) (by assumption) (by decide) (by decide) ?_; rintro g cap w4 hown4 hg4 hat4 hlt4; have hBc := CellsM.lt (W := W) (M := w.heap.size) (x := .int .i64 (n0 : Int)) (y := .int .i64 (n1 : Int)) (z := .int .i64 (n2 : Int)) (by assumption); have hBg4 : W.heap.size ≤ g := by omega)
      | (refine step_app_own rfl (.tmp 11) (.tmp 14) rfl (by rfl) (by rfl) (by first | assumption | exact own_below (by assumption) (by assumption) (Nat.le_refl _)) (by assumption) (by decide) (by decide) ?_; rintro g cap w4 hown4 hg4 hat4 hlt4; have hBc := CellsM.lt (W := W) (M := w.heap.size) (x := .int .i64 (n0 : Int)) (y := .int .i64 (n1 : Int)) (z := .int .i64 (n2 : Int)) (by assumption); have hBg4 : W.heap.size ≤ g := by omega))
  have hbel : Below W.heap.size W w4 := ((by assumption : CellsM W w.heap.size (.int .i64 (n0 : Int)) (.int .i64 (n1 : Int)) (.int .i64 (n2 : Int)) w4)).2.2.2
  have hl24 : (num8 n0 ++ num8 n1 ++ num8 n2).length = 24 := by simp [num8_length]
  have hown5 : w4.ownsRow W.heap.size 5 1 (.slice (some ⟨g, 0, none⟩) 24 cap) (num8 n0 ++ num8 n1 ++ num8 n2).length ((num8 n0 ++ num8 n1 ++ num8 n2).map u8v) := by rw [hl24]; exact own_mono hown4 (by simp)
  generalize Value.slice (some ⟨g, 0, none⟩) 24 cap = v3 at hown5 ⊢
  generalize num8 n0 ++ num8 n1 ++ num8 n2 = p3 at hown5 Hbs hl24
  clear hown4 hg4 hat4 hlt4 hBc hBg4 hBg hg hb hown
  have c3 := HcM.out w4 hbel 3 _ rfl
  obtain ⟨C, W5, hrun, hrd, hb5⟩ := conv_text frm (by omega) w4
  have hcall := refBytes_calls _ frm W5 hrd (fun l c e => by cases e) (by omega)
  generalize strL frm = sf at c3 hrun
  have Hcall := Lib.hid hcall
  have hbel5 := hbel.trans (hb5.mono hbel.size)
  clear hcall hrd hW HW
  go_wp2_with fail
  refine (Hcall.out).mono ?_; rintro e w6 ⟨v6, rfl, hown6, hb6⟩
  have hbel6 := hbel5.trans (hb6.mono hbel5.size)
  have hownA := own_below (own_below hown5 hb5 (Nat.le_refl _)) hb6 (Nat.le_refl _)
  have hlL := lenB_length frm
  go_upto_region 3 with (at_builtin; go_must (refine app_row rfl rfl (.tmp 16) (.tmp 20) rfl hownA hown6 rfl rfl (by omega) hbel6.size ?_); rintro v7 w7 hown7 hg7)
  have hbel7 : Below W.heap.size W w7 := hbel6.grown hg7 hbel6.size (fun k hk => own_base hownA k hk)
  generalize hp4 : p3 ++ lenB frm = p4 at hown7
  have hl4 : p4.length ≤ 24 + 8 + 100000 := by rw [← hp4, List.length_append]; omega
  have Hp4 := Lib.hid hp4
  have c4 := HcM.out w7 hbel7 4 _ rfl
  have hcall2 := refNum_calls rcpts.length (by omega) w7
  have Hcall2 := Lib.hid hcall2
  clear hp4 hownA hown6 hb6 hg7 hcall2 hown5 hbel6 hbel5 hb5
  go_wp2_with fail
  refine (Hcall2.out).mono ?_; rintro e w8 ⟨v8, rfl, hown8, hb8⟩
  have hbel8 := hbel7.trans (hb8.mono hbel7.size)
  have hownA := own_below hown7 hb8 (Nat.le_refl _)
  have hl8 := num8_length rcpts.length
  go_upto_region 4 with (at_builtin; go_must (refine app_row rfl rfl (.tmp 22) (.tmp 26) rfl hownA hown8 rfl rfl (by omega) hbel8.size ?_); rintro v9 w9 hown9 hg9)
  have hbel9 : Below W.heap.size W w9 := hbel8.grown hg9 hbel8.size (fun k hk => own_base hownA k hk)
  generalize hp5 : p4 ++ num8 rcpts.length = p5 at hown9
  have hl5 : p5.length ≤ 24 + 8 + 100000 + 8 := by rw [← hp5, List.length_append]; omega
  have Hp5 := Lib.hid hp5
  have Hown9 := Lib.hid hown9
  clear hp5 hownA hown8 hb8 hg9 hbel8 hown9 hbel7 hown7 c4 c3
  go_wp2
  go_loopw [3, 4] (fun v i wr => ∃ j : Nat, j ≤ rcpts.length ∧ i = .int .i64 j ∧ wr.ownsRow W.heap.size 5 1 v (p5 ++ (rcpts.take j).flatMap lenB).length ((p5 ++ (rcpts.take j).flatMap lenB).map u8v) ∧ Below W.heap.size W wr) (fun _ i _ => rcpts.length - (intOf i).toNat)
  case atStart => exact ⟨0, Nat.zero_le _, rfl, by simpa using Hown9.out, hbel9⟩
  case round =>
    obtain ⟨j, hj, rfl, hown, hbw⟩ := hrel
    by_cases hlt : j < rcpts.length
    · obtain ⟨x, hx⟩ : ∃ x, rcpts[j]? = some x := ⟨_, List.getElem?_eq_getElem hlt⟩
      obtain ⟨b1, o1, k1, e1, _, q1⟩ := RdS.at (Hr.out.below (Nat.le_refl _) hbw) hx
      cases e1
      have c4 := HcM.out _ hbw 4 _ rfl
      have hxl := Hs2.out x (List.mem_of_getElem? hx)
      have hlj := Hlen.out j
      have hlj2 : (rcpts.take j).length * (8 + 100000) ≤ 8 * (8 + 100000) := Nat.mul_le_mul_right _ (by rw [List.length_take]; omega)
      have hnx : p5 ++ (rcpts.take (j + 1)).flatMap lenB = (p5 ++ (rcpts.take j).flatMap lenB) ++ lenB x := by rw [take_snoc hx, List.flatMap_append, List.append_assoc]; simp
      have hql : (p5 ++ (rcpts.take j).flatMap lenB).length ≤ 1000000 := by rw [List.length_append]; omega
      generalize p5 ++ (rcpts.take j).flatMap lenB = q at hown hnx hql
      have Hnx := Lib.hid hnx
      obtain ⟨C, W2, hrun, hrd, hb2⟩ := conv_text x (by omega) ‹World›
      have hcall := refBytes_calls _ x W2 hrd (fun l c e => by cases e) (by omega)
      generalize strL x = sx at q1 hrun
      have Hcall := Lib.hid hcall
      have hj0 : (0 : Int) ≤ (j : Int) := by omega
      have hj1 : (j : Int) < (rcpts.length : Int) := by omega
      have hbel2 := hbw.trans (hb2.mono hbw.size)
      have hownA := own_below hown hb2 (Nat.le_refl _)
      clear hcall hrd hnx hx hlj hlj2
      go_wp2_with fail
      refine (Hcall.out).mono ?_; rintro e w4 ⟨v4, rfl, hown4, hb4⟩
      have hbel4 := hbel2.trans (hb4.mono hbel2.size)
      have hownB := own_below hownA hb4 (Nat.le_refl _)
      have hlL := lenB_length x
      go_wp2_with (at_builtin; go_must (refine app_row rfl rfl (.tmp 35) (.tmp 42) rfl hownB hown4 rfl rfl (by omega) hbel4.size ?_); rintro v5 w5 hown5 hg5)
      have hbel5 : Below W.heap.size W w5 := hbel4.grown hg5 hbel4.size (fun k hk => own_base hownB k hk)
      rw [← Hnx.out] at hown5
      have Hown5 := Lib.hid hown5
      clear hown5
      go_roundw
      case rel => exact ⟨j + 1, by omega, by simp, Hown5.out, hbel5⟩
      case measure => simp [intOf] <;> omega
    · have hje : j = rcpts.length := by omega
      have hlj := Hlen.out j
      have hlj2 : (rcpts.take j).length * (8 + 100000) ≤ 8 * (8 + 100000) := Nat.mul_le_mul_right _ (by rw [List.length_take]; omega)
      subst hje
      rw [List.take_of_length_le (Nat.le_refl _)] at hown hlj hlj2
      generalize hp6 : p5 ++ rcpts.flatMap lenB = p6 at hown
      have hl6 : p6.length ≤ 1000000 := by rw [← hp6, List.length_append]; omega
      have Hp6 := Lib.hid hp6
      clear hp6 hlj hlj2
      have c4 := HcM.out _ hbw 4 _ rfl
      have c5 := HcM.out _ hbw 5 _ rfl
      have hcall := refBytes_calls _ body _ (Hb.out.below (Nat.le_refl _) hbw) Hnb.out (by omega)
      have Hcall := Lib.hid hcall
      clear hcall
      go_wp2_with fail
      refine (Hcall.out).mono ?_; rintro e wA ⟨vA, rfl, hownA, hbA⟩
      have hbelA := hbw.trans (hbA.mono hbw.size)
      have hownB := own_below hown hbA (Nat.le_refl _)
      have hlL := lenB_length body
      go_upto_region 9 with (at_builtin; go_must (refine app_row rfl rfl (.tmp 44) (.tmp 47) rfl hownB hownA rfl rfl (by omega) hbelA.size ?_); rintro vB wB hownC hgB)
      have hbelB : Below W.heap.size W wB := hbelA.grown hgB hbelA.size (fun k hk => own_base hownB k hk)
      have hin' : p6 ++ lenB body = bs := by rw [Hbs.out, ← Hp6.out, ← Hp5.out, ← Hp4.out]
      rw [hin'] at hownC
      have hrb := rdB_ofOwn hownC
      have hcallC := refBytes_calls _ bs _ hrb (nilOk_own hownC) (by omega)
      have HcallC := Lib.hid hcallC
      have Hrb := Lib.hid hrb
      clear hcallC hrb hownB hownA hgB hin'
      go_wp2_with fail
      refine (HcallC.out).mono ?_; rintro e wC ⟨vC, rfl, hownD, hbC⟩
      have hcallD := refSum_calls _ bs wC (Hrb.out.below (Nat.le_refl _) hbC)
      have HcallD := Lib.hid hcallD
      have hbelC := hbelB.trans (hbC.mono hbelB.size)
      clear hcallD
      go_wp2_with fail
      refine (HcallD.out).mono ?_; rintro e wD ⟨vD, rfl, hownE, hbD⟩
      have hbelD := hbelC.trans (hbD.mono hbelC.size)
      have hownF := own_mono (own_below hownD hbD (Nat.le_refl _)) hbelB.size
      have hlB := lenB_length bs
      have hl4' : (be4 (PbCrc.sum bs)).length = 4 := rfl
      go_wp2_with (at_builtin; go_must (refine app_row rfl rfl (.tmp 50) (.tmp 52) rfl hownF hownE rfl rfl (by omega) hbelD.size ?_); rintro vG wG hownG hgG)
      go_ret
      have hbelG : Below W.heap.size W wG := hbelD.grown hgG hbelD.size (fun k hk => own_base hownF k hk)
      exact ⟨vG, rfl, own_mono hownG (by omega), hbW.trans (hbelG.mono hbW.size)⟩
end Go.Proofs.YtjddicoigbidlaaGreatDoor

set_option linter.unusedSimpArgs false
set_option linter.unusedVariables false
namespace Go.Proofs.YtjddicoigbidlaaGreatDoor
open Go.RowKit
/-- A mail whose slices are new rows. -/
def MailNew (w : World) (m : MailD) (e : Ending) (w' : World) : Prop :=
  ∃ vr vb, e = .returned (mailVal m vr vb) ∧ RdS w' vr m.rcpts ∧ RdB w' vb m.body ∧ NilOk vr ∧ NilOk vb ∧ (∀ k, vr.ownBlock = some k → w.heap.size ≤ k ∧ k < w'.heap.size) ∧ (∀ k, vb.ownBlock = some k → w.heap.size ≤ k ∧ k < w'.heap.size) ∧ Below w.heap.size w w'
def oneD : MailD := ⟨1, 0, 0, [], [[97, 64, 98]], [120, 10]⟩
theorem oneD_good : oneD.good = true := by kernel_rfl
theorem oneD_small : oneD.small := ⟨by decide, by decide⟩
set_option maxRecDepth 100000 in
set_option maxHeartbeats 4000000 in
theorem one_calls (w : World) : Calls Tryz.prog 38 #[] w (MailNew w oneD) := by
  have hz : ∀ w, (zeroValue 25).run Tryz.prog w = .ok (.agg #[.int .i64 0, .int .i64 0, .int .i64 0, .string ⟨#[]⟩, .slice none 0 0, .slice none 0 0]) w := fun _ => by kernel_rfl
  have kc := fun (w : World) (C : Array Value) (n c : Nat) => Lib.run_convert_bytes_const (P := Tryz.prog) w 23 5 C n c Tryz.underlying23 Tryz.underlying5
  have hkc : (convert 23 23 (.slice (some ⟨w.heap.size + 1 + 1, 0, none⟩) 2 2)).run Tryz.prog (((w.alloc (.cells #[.int .i64 0, .int .i64 0, .int .i64 0, .string ⟨#[]⟩, .slice none 0 0, .slice none 0 0] 25)).alloc (.cells #[.string ⟨#[97, 64, 98]⟩] 9)).alloc (.cells #[.int .u8 120, .int .u8 10] 5)) = .ok (.slice (some ⟨w.heap.size + 1 + 1, 0, none⟩) 2 2) (((w.alloc (.cells #[.int .i64 0, .int .i64 0, .int .i64 0, .string ⟨#[]⟩, .slice none 0 0, .slice none 0 0] 25)).alloc (.cells #[.string ⟨#[97, 64, 98]⟩] 9)).alloc (.cells #[.int .u8 120, .int .u8 10] 5 (2, 3))) := by
    have h : (convert 23 23 _).run Tryz.prog _ = Result.ok _ (World.alloc _ (.cells #[.int .u8 120, .int .u8 10] 5 (2, 3))) := kc ((w.alloc (.cells #[.int .i64 0, .int .i64 0, .int .i64 0, .string ⟨#[]⟩, .slice none 0 0, .slice none 0 0] 25)).alloc (.cells #[.string ⟨#[97, 64, 98]⟩] 9)) #[.int .u8 120, .int .u8 10] 2 2
    simp only [World.size_alloc] at h
    exact h
  clear kc
  go_enter Tryz.func38, Tryz.ntmps38
  go_wp2
  obtain ⟨cs, hcs⟩ : ∃ cs, #[Value.int .i64 1, .int .i64 0, .int .i64 0, .string ⟨#[]⟩, .slice (some ⟨w.heap.size + 1, 0, none⟩) 1 1, .slice (some ⟨w.heap.size + 1 + 1, 0, none⟩) 2 2] = cs := ⟨_, rfl⟩
  obtain ⟨W1, hW1⟩ : ∃ W1, w.alloc (.cells cs 25) = W1 := ⟨_, rfl⟩
  obtain ⟨W2, hW2⟩ : ∃ W2, W1.alloc (.cells #[.string ⟨#[97, 64, 98]⟩] 9) = W2 := ⟨_, rfl⟩
  obtain ⟨W3, hW3⟩ : ∃ W3, W2.alloc (.cells #[.int .u8 120, .int .u8 10] 5 (2, 3)) = W3 := ⟨_, rfl⟩
  have hb1 : Below w.heap.size w W1 := by rw [← hW1]; exact (Below.refl _ _).alloc (Nat.le_refl _) _
  have hb2 : Below W1.heap.size W1 W2 := by rw [← hW2]; exact (Below.refl _ _).alloc (Nat.le_refl _) _
  have hb3 : Below W2.heap.size W2 W3 := by rw [← hW3]; exact (Below.refl _ _).alloc (Nat.le_refl _) _
  have h1 : W1.heap.size = w.heap.size + 1 := by rw [← hW1]; simp
  have h2 : W2.heap.size = w.heap.size + 1 + 1 := by rw [← hW2]; simp [h1]
  have h3 : W3.heap.size = w.heap.size + 1 + 1 + 1 := by rw [← hW3]; simp [h2]
  have hM : W3.heap[w.heap.size]? = some (.cells cs 25 (0, 0)) :=
    (hb3.block _ (by omega)).trans ((hb2.block _ (by omega)).trans (by rw [← hW1]; exact heap_alloc_new w _))
  have ho1 : W2.ownsRow W1.heap.size 9 1 (.slice (some ⟨W1.heap.size, 0, none⟩) 1 1) 1 [.string ⟨#[97, 64, 98]⟩] := by rw [← hW2]; exact World.ownsRow_lit W1 #[.string ⟨#[97, 64, 98]⟩] 1 (Nat.le_refl _) (by decide) rfl
  have ho2 : RdB W3 (.slice (some ⟨W2.heap.size, 0, none⟩) 2 2) [120, 10] := by
    have hh : W3.heap[W2.heap.size]? = some (.cells ([120, 10].map u8v).toArray 5 (2, 3)) := by rw [← hW3]; exact heap_alloc_new W2 _
    exact rdB_row hh (by decide) (by decide)
  have ho1' := own_below ho1 hb3 (Nat.le_refl _)
  have hbw : Below w.heap.size w W3 := (hb1.trans (hb2.mono (by omega))).trans (hb3.mono (by omega))
  rw [h1] at ho1'
  rw [h2] at ho2
  rw [hcs, hW1, hW2, hW3]
  have hcz : cs.size = 6 := by rw [← hcs]; rfl
  refine bodyPost_ret (results_row1 rfl _ _ w.heap.size 25 cs (0, 0) _ rfl hM Tryz.underlying25 rfl (by rw [hcz]; kernel_rfl)) rfl ?_
  refine ⟨.slice (some ⟨w.heap.size + 1, 0, none⟩) 1 1, .slice (some ⟨w.heap.size + 1 + 1, 0, none⟩) 2 2, by rw [← hcs]; rfl, rdL_ofOwn (xs := [[97, 64, 98]]) s1_len (by decide) ho1', ho2, (fun l c e => by cases e), (fun l c e => by cases e), fun k hk => ?_, fun k hk => ?_, hbw⟩
  · cases hk; show w.heap.size ≤ w.heap.size + 1 ∧ w.heap.size + 1 < _; omega
  · cases hk; show w.heap.size ≤ w.heap.size + 1 + 1 ∧ w.heap.size + 1 + 1 < _; omega
end Go.Proofs.YtjddicoigbidlaaGreatDoor

set_option linter.unusedSimpArgs false
set_option linter.unusedVariables false
namespace Go.Proofs.YtjddicoigbidlaaGreatDoor
open Go.RowKit
/-- A mail in a block of its own, and what its slices hold. -/
structure MailAt (w : World) (M : Nat) (m : MailD) (vr vb : Value) : Prop where
  blk : w.heap[M]? = some (.cells #[.int .i64 m.id, .int .i64 m.parent, .int .i64 m.born, .string (strL m.frm), vr, vb] 25 (0, 0))
  rs : RdS w vr m.rcpts
  rb : RdB w vb m.body
theorem MailAt.below {w w' : World} {M : Nat} {m : MailD} {vr vb : Value} (h : MailAt w M m vr vb) (hb : Below w.heap.size w w') : MailAt w' M m vr vb :=
  ⟨(hb.block _ (Array.getElem?_eq_some_iff.1 h.blk).1).trans h.blk, h.rs.below (Nat.le_refl _) hb, h.rb.below (Nat.le_refl _) hb⟩
theorem MailAt.cells {w : World} {M : Nat} {m : MailD} {vr vb : Value} (h : MailAt w M m vr vb) : w.cell? ⟨M, 0, none⟩ = some (.int .i64 m.id) ∧ w.cell? ⟨M, 1, none⟩ = some (.int .i64 m.parent) ∧ w.cell? ⟨M, 2, none⟩ = some (.int .i64 m.born) ∧ w.cell? ⟨M, 3, none⟩ = some (.string (strL m.frm)) ∧ w.cell? ⟨M, 4, none⟩ = some vr ∧ w.cell? ⟨M, 5, none⟩ = some vb := (cells6 h.blk).1
/-- A mail laid into a new block. -/
theorem MailAt.new {w : World} {m : MailD} {vr vb : Value} (hr : RdS w vr m.rcpts) (hb : RdB w vb m.body) :
    MailAt (w.alloc (.cells #[.int .i64 m.id, .int .i64 m.parent, .int .i64 m.born, .string (strL m.frm), vr, vb] 25)) w.heap.size m vr vb :=
  ⟨heap_alloc_new w _, hr.below (Nat.le_refl _) ((Below.refl _ _).alloc (Nat.le_refl _) _), hb.below (Nat.le_refl _) ((Below.refl _ _).alloc (Nat.le_refl _) _)⟩
/-- What stays of a boxed mail. -/
def MailRest (w0 : World) (X : Nat) (m : MailD) (vr vb : Value) (w : World) : Prop := Below w0.heap.size w0 w ∧ MailAt w X m vr vb
abbrev MailS (w0 : World) (X : Nat) (m : MailD) (vr vb : Value) (w' : World) : Prop :=
  w'.cell? ⟨X, 0, none⟩ = some (.int .i64 m.id) ∧ w'.cell? ⟨X, 1, none⟩ = some (.int .i64 m.parent) ∧ w'.cell? ⟨X, 2, none⟩ = some (.int .i64 m.born) ∧ w'.cell? ⟨X, 3, none⟩ = some (.string (strL m.frm)) ∧ w'.cell? ⟨X, 4, none⟩ = some vr ∧ w'.cell? ⟨X, 5, none⟩ = some vb ∧ MailRest w0 X m vr vb w'
theorem MailS.go {w0 w w' : World} {X : Nat} {m : MailD} {vr vb : Value} (hb : Below w.heap.size w w') (h : MailS w0 X m vr vb w) : MailS w0 X m vr vb w' := by
  obtain ⟨_, _, _, _, _, _, h1, h2⟩ := h
  have h2' := h2.below hb
  exact ⟨h2'.cells.1, h2'.cells.2.1, h2'.cells.2.2.1, h2'.cells.2.2.2.1, h2'.cells.2.2.2.2.1, h2'.cells.2.2.2.2.2, h1.trans (hb.mono h1.size), h2'⟩
theorem rdS_nil {w : World} : RdS w (.slice none 0 0) [] := .inl ⟨_, _, rfl, by decide, rfl⟩
theorem rdB_nil {w : World} : RdB w (.slice none 0 0) [] := .inl ⟨_, _, rfl, by decide, rfl⟩
set_option maxRecDepth 100000 in
set_option maxHeartbeats 8000000 in
theorem envAns_calls (w : World) (hmax : MaxOk w) : Calls Tryz.prog 13 #[] w fun e w' => e = .returned (.bool true) ∧ Below w.heap.size w w' := by
  have hone := fun W => one_calls W
  have hdec := decode_record oneD oneD_small oneD_good []
  rw [List.append_nil] at hdec
  have henc := fun W vr vb h1 h2 h3 h4 h5 h6 => encode_good oneD vr vb W h1 h2 h3 oneD_small h4 oneD_good h5 h6
  have hdc := fun v W h1 h2 => envDecode_calls v oneD.record W h1 (by rw [record_length]; decide) h2
  rw [hdec] at hdc
  have hsm1 := fun ra ba rb bb W h1 h2 h3 h4 => envSame_calls oneD oneD ra ba rb bb W h1 h2 h3 h4
  have hsm2 := fun ra ba rb bb W h1 h2 h3 h4 => envSame_calls oneD MailD.zero ra ba rb bb W h1 h2 h3 h4
  have e1 : decide (oneD = oneD) = true := by simp
  have e2 : decide (oneD = MailD.zero) = false := by kernel_rfl
  have hgd := fun vr vb W h1 h2 h3 => envGood_calls oneD vr vb W h1 h2 (by decide) (by decide) h3
  rw [e1] at hsm1
  rw [e2] at hsm2
  rw [oneD_good] at hgd
  generalize hm : oneD = m at *
  have HL : Hid (m.record.length ≤ 100000000) := by subst hm; show _ ≤ _; rw [record_length]; decide
  clear hm
  have Hone := Lib.hid hone
  have Henc := Lib.hid henc
  have Hdc := Lib.hid hdc
  have Hsm1 := Lib.hid hsm1
  have Hsm2 := Lib.hid hsm2
  have Hgd := Lib.hid hgd
  have Hmax := Lib.hid hmax
  clear hone henc hdc hsm1 hsm2 hgd hmax hdec e1 e2
  go_enter Tryz.func13, Tryz.ntmps13
  go_wp2_with fail
  refine (Hone.out _).mono ?_; rintro e w1 ⟨vr, vb, rfl, hrL, hrT, hnL, hnT, hbL, hbT, hb1⟩
  have hbs1 := hb1.size
  have henc := Henc.out w1 vr vb hrL hrT hnT (Hmax.out.below hb1) (fun k hk => (hbL k hk).2) (fun k hk => (hbT k hk).2)
  have Henc1 := Lib.hid henc
  clear henc hrL hrT hnL hnT hbL hbT
  go_wp2_with fail
  refine (Henc1.out).mono ?_; rintro e w2 ⟨v2, rfl, ho2, hb2⟩
  have hbw2 := hb1.trans (hb2.mono hb1.size)
  have hdec := Hdc.out v2 w2 (rdB_ofOwn ho2) (Hmax.out.below hbw2)
  obtain ⟨a2, c2, hv2⟩ := own_form0 ho2
  subst hv2
  have Hdec := Lib.hid hdec
  clear hdec ho2 Henc1 Henc
  generalize m.record.length = L at *
  have hLL := HL.out
  go_wp2_with fail
  refine (Hdec.out).mono ?_; rintro e w3 ⟨vr3, vb3, rfl, hoL3, hoT3, hb3⟩
  have hoL3 : w3.ownsRow w2.heap.size 9 1 vr3 m.rcpts.length (m.rcpts.flatMap s1) := hoL3
  have hoT3 : w3.ownsRow w2.heap.size 5 1 vb3 m.body.length (m.body.map u8v) := hoT3
  have he : mailVal ((some (m, L)).elim MailD.zero Prod.fst) vr3 vb3 = mailVal m vr3 vb3 := rfl
  have hel : (Option.elim (some (m, L)) 0 Prod.snd : Nat) = L := rfl
  have hsm : Option.isSome (some (m, L)) = true := rfl
  rw [he, hel, hsm]
  have hbw3 := hbw2.trans (hb3.mono hbw2.size)
  obtain ⟨a3, c3, hv3⟩ := own_form0 hoL3
  obtain ⟨a4, c4, hv4⟩ := own_form0 hoT3
  subst hv3
  subst hv4
  have hnew := MailAt.new (m := m) (rdL_ofOwn s1_len (by decide) hoL3) (rdB_ofOwn hoT3)
  have hbw4 := hbw3.alloc hbw3.size (.cells #[.int .i64 m.id, .int .i64 m.parent, .int .i64 m.born, .string (strL m.frm), (.slice a3 m.rcpts.length c3), (.slice a4 m.body.length c4)] 25)
  have hX : w3.heap.size = w3.heap.size := rfl
  obtain ⟨w4, hw4⟩ : ∃ w4, w3.alloc (.cells #[.int .i64 m.id, .int .i64 m.parent, .int .i64 m.born, .string (strL m.frm), (.slice a3 m.rcpts.length c3), (.slice a4 m.body.length c4)] 25) = w4 := ⟨_, rfl⟩
  have hS : MailS w4 w3.heap.size m (.slice a3 m.rcpts.length c3) (.slice a4 m.body.length c4) w4.drew := by
    rw [hw4] at hnew
    exact MailS.go ((Below.refl _ _).drew) ⟨hnew.cells.1, hnew.cells.2.1, hnew.cells.2.2.1, hnew.cells.2.2.2.1, hnew.cells.2.2.2.2.1, hnew.cells.2.2.2.2.2, Below.refl _ _, hnew⟩
  have getM : Hid (∀ W, MailS w4 w3.heap.size m (.slice a3 m.rcpts.length c3) (.slice a4 m.body.length c4) W → MailAt W w3.heap.size m (.slice a3 m.rcpts.length c3) (.slice a4 m.body.length c4)) := fun W h => h.2.2.2.2.2.2.2
  have hmx4 := Hmax.out.below hbw4
  have Hmax4 : Hid (∀ W, MailS w4 w3.heap.size m (.slice a3 m.rcpts.length c3) (.slice a4 m.body.length c4) W → MaxOk W) := fun W h => by rw [hw4] at hmx4; exact hmx4.below h.2.2.2.2.2.2.1
  have Hfin : Hid (∀ W, MailS w4 w3.heap.size m (.slice a3 m.rcpts.length c3) (.slice a4 m.body.length c4) W → Below w.heap.size w W) := fun W h => by rw [hw4] at hbw4; exact hbw4.trans (h.2.2.2.2.2.2.1.mono hbw4.size)
  have HS := Lib.hid hS
  have Hw4 := Lib.hid hw4
  have hx3 : (w3.alloc (.cells #[.int .i64 m.id, .int .i64 m.parent, .int .i64 m.born, .string (strL m.frm), (.slice a3 m.rcpts.length c3), (.slice a4 m.body.length c4)] 25)).heap.size = w3.heap.size + 1 := by simp
  clear hS hw4 hmx4 hbw4 hnew hoL3 hoT3 hX hx3 he hel hsm Hdec Hdc
  go_wp2
  rw [Hw4.out]
  generalize hX : w3.heap.size = X at *
  clear hX
  refine wp_region_noPanic ?_
  refine wp_region_held_drew (S := (fun w' => w'.cell? ⟨X, 0, none⟩ = some (.int .i64 m.id) ∧ w'.cell? ⟨X, 1, none⟩ = some (.int .i64 m.parent) ∧ w'.cell? ⟨X, 2, none⟩ = some (.int .i64 m.born) ∧ w'.cell? ⟨X, 3, none⟩ = some (.string (strL m.frm)) ∧ w'.cell? ⟨X, 4, none⟩ = some (.slice a3 m.rcpts.length c3) ∧ w'.cell? ⟨X, 5, none⟩ = some (.slice a4 m.body.length c4) ∧ MailRest w4 X m (.slice a3 m.rcpts.length c3) (.slice a4 m.body.length c4) w')) (by kernel_rfl) (by first | with_reducible exact HS.out | with_reducible assumption) (fun hHeld => ?_)
  refine wpAnyH_take (i := 0) (oi := _) (v := ?_) (by simp only [List.getElem?_toArray, List.getElem?_cons_succ, List.getElem?_cons_zero]; rfl) (by kernel_rfl) (by kernel_rfl) (by kernel_rfl) (fun _ _ _ h => h) (Or.inl ⟨by rfl, ?_⟩) (by assumption) ?_
  rotate_left
  · intro w hSw; (try dsimp only at hSw); go_simp; (try with_reducible rfl)
  try simp only [Act.put, List.setIfInBounds_toArray, List.set_cons_zero, List.set_cons_succ]
  refine wpAnyH_take (i := 1) (oi := _) (v := ?_) (by simp only [List.getElem?_toArray, List.getElem?_cons_succ, List.getElem?_cons_zero]; rfl) (by kernel_rfl) (by kernel_rfl) (by kernel_rfl) (fun _ _ _ h => h) (Or.inl ⟨by rfl, ?_⟩) (by assumption) ?_
  rotate_left
  · intro w hSw; (try dsimp only at hSw); go_simp; (try with_reducible rfl)
  try simp only [Act.put, List.setIfInBounds_toArray, List.set_cons_zero, List.set_cons_succ]
  refine wpAnyH_take (i := 2) (oi := _) (v := ?_) (by simp only [List.getElem?_toArray, List.getElem?_cons_succ, List.getElem?_cons_zero]; rfl) (by kernel_rfl) (by kernel_rfl) (by kernel_rfl) (fun _ _ _ h => h) (Or.inl ⟨by rfl, ?_⟩) (by assumption) ?_
  rotate_left
  · intro w hSw; (try dsimp only at hSw); go_simp; (try with_reducible rfl)
  try simp only [Act.put, List.setIfInBounds_toArray, List.set_cons_zero, List.set_cons_succ]
  refine wpAnyH_take (i := 3) (oi := _) (v := ?_) (by simp only [List.getElem?_toArray, List.getElem?_cons_succ, List.getElem?_cons_zero]; rfl) (by kernel_rfl) (by kernel_rfl) (by kernel_rfl) (fun _ _ _ h => h) (Or.inl ⟨by rfl, ?_⟩) (by assumption) ?_
  rotate_left
  · intro w hSw; (try dsimp only at hSw); go_simp; (try with_reducible rfl)
  try simp only [Act.put, List.setIfInBounds_toArray, List.set_cons_zero, List.set_cons_succ]
  refine wpAnyH_take (i := 4) (oi := _) (v := ?_) (by simp only [List.getElem?_toArray, List.getElem?_cons_succ, List.getElem?_cons_zero]; rfl) (by kernel_rfl) (by kernel_rfl) (by kernel_rfl) (fun _ _ _ h => h) (Or.inl ⟨by rfl, ?_⟩) (by assumption) ?_
  rotate_left
  · intro w hSw; (try dsimp only at hSw); go_simp; (try with_reducible rfl)
  try simp only [Act.put, List.setIfInBounds_toArray, List.set_cons_zero, List.set_cons_succ]
  refine wpAnyH_take (i := 5) (oi := _) (v := ?_) (by simp only [List.getElem?_toArray, List.getElem?_cons_succ, List.getElem?_cons_zero]; rfl) (by kernel_rfl) (by kernel_rfl) (by kernel_rfl) (fun _ _ _ h => h) (Or.inl ⟨by rfl, ?_⟩) (by assumption) ?_
  rotate_left
  · intro w hSw; (try dsimp only at hSw); go_simp; (try with_reducible rfl)
  try simp only [Act.put, List.setIfInBounds_toArray, List.set_cons_zero, List.set_cons_succ]
  refine wpAnyH_take (i := 6) (oi := _) (v := ?_) (by simp only [List.getElem?_toArray, List.getElem?_cons_succ, List.getElem?_cons_zero]; rfl) (by kernel_rfl) (by kernel_rfl) (by kernel_rfl) (fun _ _ _ h => h) (Or.inl ⟨by rfl, ?_⟩) (by assumption) ?_
  rotate_left
  · intro w hSw; (try dsimp only at hSw); go_simp; (try with_reducible rfl)
  try simp only [Act.put, List.setIfInBounds_toArray, List.set_cons_zero, List.set_cons_succ]
  refine wpAnyH_take (i := 7) (oi := _) (v := ?_) (by simp only [List.getElem?_toArray, List.getElem?_cons_succ, List.getElem?_cons_zero]; rfl) (by kernel_rfl) (by kernel_rfl) (by kernel_rfl) (fun _ _ _ h => h) (Or.inl ⟨by rfl, ?_⟩) (by assumption) ?_
  rotate_left
  · intro w hSw; (try dsimp only at hSw); go_simp; (try with_reducible rfl)
  try simp only [Act.put, List.setIfInBounds_toArray, List.set_cons_zero, List.set_cons_succ]
  refine wpAnyH_take (i := 8) (oi := _) (v := ?_) (by simp only [List.getElem?_toArray, List.getElem?_cons_succ, List.getElem?_cons_zero]; rfl) (by kernel_rfl) (by kernel_rfl) (by kernel_rfl) (fun _ _ _ h => h) (Or.inl ⟨by rfl, ?_⟩) (by assumption) ?_
  rotate_left
  · intro w hSw; (try dsimp only at hSw); go_simp; (try with_reducible rfl)
  try simp only [Act.put, List.setIfInBounds_toArray, List.set_cons_zero, List.set_cons_succ]
  refine wpAnyH_take (i := 9) (oi := _) (v := ?_) (by simp only [List.getElem?_toArray, List.getElem?_cons_succ, List.getElem?_cons_zero]; rfl) (by kernel_rfl) (by kernel_rfl) (by kernel_rfl) (fun _ _ _ h => h) (Or.inl ⟨by rfl, ?_⟩) (by assumption) ?_
  rotate_left
  · intro w hSw; (try dsimp only at hSw); go_simp; (try with_reducible rfl)
  try simp only [Act.put, List.setIfInBounds_toArray, List.set_cons_zero, List.set_cons_succ]
  refine wpAnyH_take (i := 10) (oi := _) (v := ?_) (by simp only [List.getElem?_toArray, List.getElem?_cons_succ, List.getElem?_cons_zero]; rfl) (by kernel_rfl) (by kernel_rfl) (by kernel_rfl) (fun _ _ _ h => h) (Or.inl ⟨by rfl, ?_⟩) (by assumption) ?_
  rotate_left
  · intro w hSw; (try dsimp only at hSw); go_simp; (try with_reducible rfl)
  try simp only [Act.put, List.setIfInBounds_toArray, List.set_cons_zero, List.set_cons_succ]
  refine wpAnyH_take (i := 11) (oi := _) (v := ?_) (by simp only [List.getElem?_toArray, List.getElem?_cons_succ, List.getElem?_cons_zero]; rfl) (by kernel_rfl) (by kernel_rfl) (by kernel_rfl) (fun _ _ _ h => h) (Or.inl ⟨by rfl, ?_⟩) (by assumption) ?_
  rotate_left
  · intro w hSw; (try dsimp only at hSw); go_simp; (try with_reducible rfl)
  try simp only [Act.put, List.setIfInBounds_toArray, List.set_cons_zero, List.set_cons_succ]
  refine wpAnyH_ready (rs := [12]) (by kernel_rfl) (by simp) ?_
  refine AllReadyH.cons (o := _) (by simp only [List.getElem?_toArray, List.getElem?_cons_succ, List.getElem?_cons_zero]; rfl) (fun K hK => ?_) AllReadyH.nil
  go_simp
  (go_at_call 38; refine (Hone.out _).mono ?_; rintro e w5 ⟨vr5, vb5, rfl, hr5, ht5, -, -, -, -, hb5⟩; have hS5 := MailS.go hb5 HS.out)
  refine hK.out _ _ (by (try dsimp only); first | with_reducible exact HS.out | with_reducible assumption) (fun hHeld => ?_)
  clear hK K
  try simp only [Act.put, List.setIfInBounds_toArray, List.set_cons_zero, List.set_cons_succ]
  refine wpAnyH_ready (rs := [13]) (by kernel_rfl) (by simp) ?_
  refine AllReadyH.cons (o := _) (by simp only [List.getElem?_toArray, List.getElem?_cons_succ, List.getElem?_cons_zero]; rfl) (fun K hK => ?_) AllReadyH.nil
  go_simp
  (go_at_call 39; refine (Hsm1.out _ _ _ _ _ (getM.out _ hS5).rs (getM.out _ hS5).rb hr5 ht5).mono ?_; rintro e w6 ⟨rfl, hb6⟩; have hS6 := MailS.go hb6 hS5)
  refine hK.out _ _ (by (try dsimp only); first | with_reducible exact HS.out | with_reducible assumption) (fun hHeld => ?_)
  clear hK K
  try simp only [Act.put, List.setIfInBounds_toArray, List.set_cons_zero, List.set_cons_succ]
  refine wpAnyH_take (i := 14) (oi := _) (v := ?_) (by simp only [List.getElem?_toArray, List.getElem?_cons_succ, List.getElem?_cons_zero]; rfl) (by kernel_rfl) (by kernel_rfl) (by kernel_rfl) (fun _ _ _ h => h) (Or.inl ⟨by rfl, ?_⟩) (by assumption) ?_
  rotate_left
  · intro w hSw; (try dsimp only at hSw); go_simp; (try with_reducible rfl)
  try simp only [Act.put, List.setIfInBounds_toArray, List.set_cons_zero, List.set_cons_succ]
  refine wpAnyH_take (i := 15) (oi := _) (v := ?_) (by simp only [List.getElem?_toArray, List.getElem?_cons_succ, List.getElem?_cons_zero]; rfl) (by kernel_rfl) (by kernel_rfl) (by kernel_rfl) (fun _ _ _ h => h) (Or.inl ⟨by rfl, ?_⟩) (by assumption) ?_
  rotate_left
  · intro w hSw; (try dsimp only at hSw); go_simp; (try with_reducible rfl)
  try simp only [Act.put, List.setIfInBounds_toArray, List.set_cons_zero, List.set_cons_succ]
  refine wpAnyH_take (i := 16) (oi := _) (v := ?_) (by simp only [List.getElem?_toArray, List.getElem?_cons_succ, List.getElem?_cons_zero]; rfl) (by kernel_rfl) (by kernel_rfl) (by kernel_rfl) (fun _ _ _ h => h) (Or.inl ⟨by rfl, ?_⟩) (by assumption) ?_
  rotate_left
  · intro w hSw; (try dsimp only at hSw); go_simp; (try with_reducible rfl)
  try simp only [Act.put, List.setIfInBounds_toArray, List.set_cons_zero, List.set_cons_succ]
  refine wpAnyH_ready (rs := [17]) (by kernel_rfl) (by simp) ?_
  refine AllReadyH.cons (o := _) (by simp only [List.getElem?_toArray, List.getElem?_cons_succ, List.getElem?_cons_zero]; rfl) (fun K hK => ?_) AllReadyH.nil
  go_simp
  (go_at_call 17; refine (Hgd.out _ _ _ (getM.out _ hS6).rs (getM.out _ hS6).rb (Hmax4.out _ hS6)).mono ?_; rintro e w7 ⟨rfl, hb7⟩; have hS7 := MailS.go hb7 hS6)
  refine hK.out _ _ (by (try dsimp only); first | with_reducible exact HS.out | with_reducible assumption) (fun hHeld => ?_)
  clear hK K
  try simp only [Act.put, List.setIfInBounds_toArray, List.set_cons_zero, List.set_cons_succ]
  refine wpAnyH_take (i := 18) (oi := _) (v := ?_) (by simp only [List.getElem?_toArray, List.getElem?_cons_succ, List.getElem?_cons_zero]; rfl) (by kernel_rfl) (by kernel_rfl) (by kernel_rfl) (fun _ _ _ h => h) (Or.inl ⟨by rfl, ?_⟩) (by assumption) ?_
  rotate_left
  · intro w hSw; (try dsimp only at hSw); go_simp; (try with_reducible rfl)
  try simp only [Act.put, List.setIfInBounds_toArray, List.set_cons_zero, List.set_cons_succ]
  refine wpAnyH_take (i := 19) (oi := _) (v := ?_) (by simp only [List.getElem?_toArray, List.getElem?_cons_succ, List.getElem?_cons_zero]; rfl) (by kernel_rfl) (by kernel_rfl) (by kernel_rfl) (fun _ _ _ h => h) (Or.inl ⟨by rfl, ?_⟩) (by assumption) ?_
  rotate_left
  · intro w hSw; (try dsimp only at hSw); go_simp; (try with_reducible rfl)
  try simp only [Act.put, List.setIfInBounds_toArray, List.set_cons_zero, List.set_cons_succ]
  refine wpAnyH_take (i := 20) (oi := _) (v := ?_) (by simp only [List.getElem?_toArray, List.getElem?_cons_succ, List.getElem?_cons_zero]; rfl) (by kernel_rfl) (by kernel_rfl) (by kernel_rfl) (fun _ _ _ h => h) (Or.inl ⟨by rfl, ?_⟩) (by assumption) ?_
  rotate_left
  · intro w hSw; (try dsimp only at hSw); go_simp; (try with_reducible rfl)
  try simp only [Act.put, List.setIfInBounds_toArray, List.set_cons_zero, List.set_cons_succ]
  refine wpAnyH_take (i := 21) (oi := _) (v := ?_) (by simp only [List.getElem?_toArray, List.getElem?_cons_succ, List.getElem?_cons_zero]; rfl) (by kernel_rfl) (by kernel_rfl) (by kernel_rfl) (fun _ _ _ h => h) (Or.inl ⟨by rfl, ?_⟩) (by assumption) ?_
  rotate_left
  · intro w hSw; (try dsimp only at hSw); go_simp; (try with_reducible rfl)
  try simp only [Act.put, List.setIfInBounds_toArray, List.set_cons_zero, List.set_cons_succ]
  refine wpAnyH_ready (rs := [22]) (by kernel_rfl) (by simp) ?_
  refine AllReadyH.cons (o := _) (by simp only [List.getElem?_toArray, List.getElem?_cons_succ, List.getElem?_cons_zero]; rfl) (fun K hK => ?_) AllReadyH.nil
  go_simp
  (go_at_call 39; refine (Hsm2.out _ _ _ _ _ (getM.out _ hS7).rs (getM.out _ hS7).rb rdS_nil rdB_nil).mono ?_; rintro e w8 ⟨rfl, hb8⟩; have hS8 := MailS.go hb8 hS7; have hfin8 := Hfin.out _ hS8)
  refine hK.out _ _ (by (try dsimp only); first | with_reducible exact HS.out | with_reducible assumption) (fun hHeld => ?_)
  clear hK K
  try simp only [Act.put, List.setIfInBounds_toArray, List.set_cons_zero, List.set_cons_succ]
  refine wpAnyH_take (i := 23) (oi := _) (v := ?_) (by simp only [List.getElem?_toArray, List.getElem?_cons_succ, List.getElem?_cons_zero]; rfl) (by kernel_rfl) (by kernel_rfl) (by kernel_rfl) (fun _ _ _ h => h) (Or.inl ⟨by rfl, ?_⟩) (by assumption) ?_
  rotate_left
  · intro w hSw; (try dsimp only at hSw); go_simp; (try with_reducible rfl)
  try simp only [Act.put, List.setIfInBounds_toArray, List.set_cons_zero, List.set_cons_succ]
  refine wpAnyH_take (i := 24) (oi := _) (v := ?_) (by simp only [List.getElem?_toArray, List.getElem?_cons_succ, List.getElem?_cons_zero]; rfl) (by kernel_rfl) (by kernel_rfl) (by kernel_rfl) (fun _ _ _ h => h) (Or.inl ⟨by rfl, ?_⟩) (by assumption) ?_
  rotate_left
  · intro w hSw; (try dsimp only at hSw); go_simp; (try with_reducible rfl)
  try simp only [Act.put, List.setIfInBounds_toArray, List.set_cons_zero, List.set_cons_succ]
  refine wpAnyH_take (i := 25) (oi := _) (v := ?_) (by simp only [List.getElem?_toArray, List.getElem?_cons_succ, List.getElem?_cons_zero]; rfl) (by kernel_rfl) (by kernel_rfl) (by kernel_rfl) (fun _ _ _ h => h) (Or.inl ⟨by rfl, ?_⟩) (by assumption) ?_
  rotate_left
  · intro w hSw; (try dsimp only at hSw); go_simp; (try with_reducible rfl)
  try simp only [Act.put, List.setIfInBounds_toArray, List.set_cons_zero, List.set_cons_succ]
  refine wpAnyH_done (by kernel_rfl) ?_ _
  refine NoPanic.normal ?_
  go_wp2
  go_ret
  exact ⟨rfl, hfin8⟩
end Go.Proofs.YtjddicoigbidlaaGreatDoor
